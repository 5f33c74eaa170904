/- Lists of large integers, raw and normalized, and the document's functions of layer 5 that a field's form asks for. -/
import Derived.Test.YtmbejakmeijcbaaGreatZc9
import Derived.Test.YtmbejakmeijcbaaGreatZc7
import Derived.Test.YtmbejakmeijcbaaGreatZc5
namespace Go.Proofs.YtmbejakmeijcbaaGreat
open Go.RowKit
/-- A list of integers as its fields stand. -/
abbrev zlF (c : Nat → RawZ) (i j : Nat) : Cell := (zr (c i)).getD j .any
abbrev zl (n : Nat) (c : Nat → RawZ) : Cell := .row 2 n (zlF c)
/-- A list of integers in normal form. -/
abbrev nl (n : Nat) (v : Nat → Int) : Cell := zl n fun i => ofZ (v i)
/-- The length without the zeros at the end. -/
def tl (a : Nat → Int) : Nat → Nat
  | 0 => 0
  | n + 1 => if a n = 0 then tl a n else n + 1
theorem tl_le (a : Nat → Int) : ∀ n, tl a n ≤ n
  | 0 => Nat.le_refl _
  | n + 1 => by
    unfold tl
    split
    · exact Nat.le_succ_of_le (tl_le a n)
    · exact Nat.le_refl _
theorem tl_top {a : Nat → Int} : ∀ {n k : Nat}, tl a n = k + 1 → a k ≠ 0
  | 0, k, h => by simp [tl] at h
  | n + 1, k, h => by
    unfold tl at h
    split at h
    · exact tl_top h
    · rename_i h0
      obtain rfl : n = k := by omega
      exact h0
theorem tl_self {a : Nat → Int} {n : Nat} (h : ∀ k, n = k + 1 → a k ≠ 0) : tl a n = n := by
  cases n with
  | zero => rfl
  | succ k => unfold tl; rw [if_neg (h k rfl)]
theorem tl_tl (a : Nat → Int) (n : Nat) : tl a (tl a n) = tl a n := tl_self fun _ hk => tl_top hk
theorem zlF_eq {c e : Nat → RawZ} {i j k : Nat} (h : c i = e k) : zlF c i j = zlF e k j := by unfold zlF; rw [h]
namespace Rf
/-- A list within bounds. -/
def wl (n : Nat) (c : Nat → RawZ) : Prop := n ≤ 1048576 ∧ ∀ i, i < n → wr (c i)
abbrev vz (c : Nat → RawZ) (i : Nat) : Int := (c i).val
abbrev gz (n : Nat) (v : Nat → Int) : Gx := ⟨44, 2, n, zlF fun i => ofZ (v i)⟩
theorem zl_clos {c : Nat → RawZ} (i j : Nat) : (zlF c i j).clos = true := by
  match j with
  | 0 => rfl
  | 1 => rfl
  | j + 2 => rfl
theorem app_same {α : Type} (g : Nat → α) (i j : Nat) : (if j = i then g i else g j) = g j := by
  by_cases e : j = i
  · rw [if_pos e, e]
  · rw [if_neg e]
set_option maxHeartbeats 4000000 in
theorem normal5_ok {n : Nat} {c : Nat → RawZ} (h : wl n c) : FnOK Tryz.prog false 114 [.c (zl n c)] (.c (nl (tl (vz c) n) (vz c))) := by
  have hn := h.1
  have h1 : ∀ i, i < n → FnOK Tryz.prog false 124 [.g (zr (c i))] (.g (nz (vz c i))) := fun i hi => znorm_ok (h.2 i hi)
  have h2 : ∀ i, i < n → FnOK Tryz.prog false 86 [.g (nz (vz c i))] (.c (.int .i64 (vz c i).sign)) := fun i hi => by
    have := zsign_ok (a := ofZ (vz c i)) (wr_nz (Nat.le_trans (wr_len (h.2 i hi)) (h.2 i hi).2))
    rwa [ofZ_val] at this
  clear h
  generalize hv : vz c = v at *
  refine fn_ok (E := E0) E0_ok Tryz.func114 rfl mixed (by kernel_rfl) (by kernel_rfl) ?_
  conv => whnf
  refine loop_ints (fun i : Nat => gst [(0, .c (zl n c)), (3, .c (.gs 0 0)), (4, .c (.int .i64 i))] [gz i v]) (fun i => n - i) (fun i => i ≤ n) 0 rfl (Weak.gen [none] rfl ⟨rfl, trivial⟩ ⟨.inl ⟨_, _, rfl, rfl, fun _ _ _ _ => rfl⟩, rfl, ⟨_, rfl, rfl⟩, trivial⟩) (Nat.zero_le _) fun i hi => ?_
  conv => whnf
  refine bcase (fun (h : decide ((i : Int) < n) = true) => ?_) fun (h : decide ((i : Int) < n) = false) => ?_
  · have h := of_decide_eq_true h
    have g1 := h1 i (by omega)
    conv => whnf
    refine ⟨by omega, ?_⟩
    conv => whnf
    refine ⟨by omega, ?_⟩
    conv => whnf
    refine ⟨_, g1, ?_⟩
    conv => whnf
    refine ⟨by show i + 1 ≤ 16777216; omega, fun x y hx hy => ?_, ?_⟩
    · match x, y, hx, hy with
      | 0, 0, _, _ => exact ⟨rfl, fun h => by cases h⟩
      | 0, 1, _, _ => exact ⟨rfl, fun h => by cases h⟩
    conv => whnf
    refine ⟨i64 (by omega) (by omega), ?_⟩
    conv => whnf
    refine ⟨i + 1, by omega, Weak.gen [some 0] rfl ⟨⟨_, rfl, rfl, rfl, rfl, rfl, fun j k hj hk => ?_⟩, trivial⟩ ⟨.inl ⟨_, _, rfl, rfl, fun _ _ _ _ => rfl⟩, ⟨_, rfl, rfl, rfl⟩, ⟨_, rfl, rfl⟩, trivial⟩, by omega⟩
    exact regE (appG (sz := 2) (g := fun i => nz (v i)) (g' := fun i => nz (v i)) (l := nz (v i)) (app_same (fun i => nz (v i)) i j) (Nat.le_refl (i + 1)) hj) (zl_clos (c := fun i => ofZ (v i)) j k)
  · have h := of_decide_eq_false h
    have e : i = n := by omega
    conv => whnf
    refine loop_ints (fun m : Nat => gst [(3, .c (.gs 0 0)), (5, .c (.int .i64 m))] [gz i v]) (fun m => m) (fun m => m ≤ i ∧ tl v m = tl v i) i rfl (Weak.gen [some 0] rfl ⟨⟨_, rfl, rfl, rfl, rfl, rfl, fun j k hj hk => regE rfl (zl_clos (c := fun i => ofZ (v i)) j k)⟩, trivial⟩ ⟨⟨_, rfl, rfl, rfl⟩, ⟨_, rfl, rfl⟩, trivial⟩) ⟨Nat.le_refl _, rfl⟩ fun m ⟨hm, ht⟩ => ?_
    conv => whnf
    refine bcase (fun (h : gw true (decide ((0 : Int) < m)) = true) => ?_) fun (h : gw true (decide ((0 : Int) < m)) = false) => ?_
    · have h := of_decide_eq_true (gw_true.1 h)
      have ek : ((m : Int) - 1).toNat = m - 1 := by omega
      have hs := h2 ((m : Int) - 1).toNat (by omega)
      have hz : v ((m : Int) - 1).toNat = 0 → tl v (m - 1) = tl v i := fun h => by
        rw [← ht]
        obtain ⟨k, rfl⟩ : ∃ k, m = k + 1 := ⟨m - 1, by omega⟩
        rw [ek] at h
        show tl v k = _
        simp only [tl, Nat.add_sub_cancel] at h ⊢
        rw [if_pos h]
      have hz' : v ((m : Int) - 1).toNat ≠ 0 → m = tl v n := fun h => by
        rw [← e, ← ht]
        obtain ⟨k, rfl⟩ : ∃ k, m = k + 1 := ⟨m - 1, by omega⟩
        rw [ek] at h
        simp only [tl, Nat.add_sub_cancel] at h ⊢
        rw [if_neg h]
      conv => whnf
      refine ⟨i64 (by omega) (by omega), ?_⟩
      conv => whnf
      refine ⟨by omega, ?_⟩
      conv => whnf
      refine ⟨by show ((m : Int) - 1) < (i : Int); omega, ?_⟩
      conv => whnf
      refine ⟨_, hs, ?_⟩
      conv => whnf
      refine bcase (fun (h3 : decide ((v ((m : Int) - 1).toNat).sign = 0) = true) => ?_) fun (h3 : decide ((v ((m : Int) - 1).toNat).sign = 0) = false) => ?_
      · have h3 := Int.sign_eq_zero_iff_zero.1 (of_decide_eq_true h3)
        have g3 := hz h3
        conv => whnf
        refine ⟨i64 (by omega) (by omega), ?_⟩
        conv => whnf
        exact ⟨m - 1, by omega, Weak.gen [some 0] rfl ⟨⟨_, rfl, rfl, rfl, rfl, rfl, fun j k hj hk => regE rfl (zl_clos (c := fun i => ofZ (v i)) j k)⟩, trivial⟩ ⟨⟨_, rfl, rfl, rfl⟩, ⟨_, rfl, by omega⟩, trivial⟩, by omega, g3⟩
      · have h3 := hz' fun e => of_decide_eq_false h3 (by rw [e]; rfl)
        conv => whnf
        refine ⟨by omega, by omega, ?_⟩
        conv => whnf
        refine ⟨by show (m : Int) ≤ (i : Int); omega, ?_⟩
        conv => whnf
        refine ⟨fun j k _ _ => zl_clos (c := fun i => ofZ (v i)) j k, ?_⟩
        conv => whnf
        exact ⟨rfl, subRowG (by show ((m : Int) - 0).toNat = _; omega) fun j k _ _ => zlF_eq (c := fun i => ofZ (v i)) (e := fun i => ofZ (v i)) (i := Int.toNat 0 + j) (k := j) (congrArg (fun t => ofZ (v t)) (by omega))⟩
    · have h : ¬ (0 : Int) < m := of_decide_eq_false (gw_false.1 h)
      have h3 : tl v n = 0 := by rw [← e, ← ht]; rw [show m = 0 by omega]; rfl
      conv => whnf
      refine ⟨by omega, by omega, ?_⟩
      conv => whnf
      refine ⟨by show (m : Int) ≤ (i : Int); omega, ?_⟩
      conv => whnf
      refine ⟨fun j k _ _ => zl_clos (c := fun i => ofZ (v i)) j k, ?_⟩
      conv => whnf
      exact ⟨rfl, subRowG (by show ((m : Int) - 0).toNat = _; omega) fun j k _ _ => zlF_eq (c := fun i => ofZ (v i)) (e := fun i => ofZ (v i)) (i := Int.toNat 0 + j) (k := j) (congrArg (fun t => ofZ (v t)) (by omega))⟩
set_option maxHeartbeats 4000000 in
theorem degree5_ok {n : Nat} {c : Nat → RawZ} (h : wl n c) : FnOK Tryz.prog false 115 [.c (zl n c)] (.c (.int .i64 ((tl (vz c) n : Nat) - 1))) := by
  have h1 := normal5_ok h
  have h2 := tl_le (vz c) n
  have h3 := h.1
  refine fn_ok (E := E0) E0_ok Tryz.func115 rfl mixed (by kernel_rfl) (by kernel_rfl) ?_
  conv => whnf
  refine ⟨_, h1, ?_⟩
  conv => whnf
  refine ⟨i64 (by show _ ≤ ((tl (vz c) n : Nat) : Int) - 1; omega) (by show ((tl (vz c) n : Nat) : Int) - 1 < _; omega), ?_⟩
  conv => whnf
  exact ⟨rfl, Sub.refl _⟩
/-- The coefficient, 0 outside. -/
def co (v : Nat → Int) (n : Nat) (i : Int) : Int := if 0 ≤ i ∧ i < n then v i.toNat else 0
set_option maxHeartbeats 4000000 in
theorem at5_ok {n : Nat} {c : Nat → RawZ} {i : Int} (h : wl n c) : FnOK Tryz.prog false 151 [.c (zl n c), .c (.int .i64 i)] (.g (nz (co (vz c) n i))) := by
  have h0 := rof_ok (x := 0) (by decide) (by decide)
  have h1 : 0 ≤ i → i < n → FnOK Tryz.prog false 124 [.g (zr (c i.toNat))] (.g (nz (co (vz c) n i))) := fun a b => by
    have := znorm_ok (h.2 i.toNat (by omega))
    unfold co
    rwa [if_pos ⟨a, b⟩]
  have e0 : i < 0 ∨ (n : Int) ≤ i → Sub (.g (nz 0)) (.g (nz (co (vz c) n i))) := fun a => by
    unfold co
    rw [if_neg (by omega)]
    exact Sub.refl _
  refine fn_ok (E := E0) E0_ok Tryz.func151 rfl mixed (by kernel_rfl) (by kernel_rfl) ?_
  conv => whnf
  refine bcase (fun (h : gw false (decide (i < 0)) = true) => ?_) fun (h : gw false (decide (i < 0)) = false) => ?_
  · have h := of_decide_eq_false (gwf h)
    conv => whnf
    refine bcase (fun (h' : decide ((n : Int) ≤ i) = true) => ?_) fun (h' : decide ((n : Int) ≤ i) = false) => ?_
    · have g := e0 (.inr (of_decide_eq_true h'))
      conv => whnf
      refine ⟨_, h0, ?_⟩
      conv => whnf
      exact ⟨rfl, g⟩
    · have h' := of_decide_eq_false h'
      have g := h1 (by omega) (by omega)
      conv => whnf
      refine ⟨by omega, by omega, ?_⟩
      conv => whnf
      refine ⟨_, g, ?_⟩
      conv => whnf
      exact ⟨rfl, Sub.refl _⟩
  · have h := of_decide_eq_true (gwf' h)
    have g := e0 (.inl h)
    conv => whnf
    refine ⟨_, h0, ?_⟩
    conv => whnf
    exact ⟨rfl, g⟩
/-- The leading coefficient. -/
abbrev ldc (n : Nat) (v : Nat → Int) : Int := co v n ((tl v n : Nat) - 1)
set_option maxHeartbeats 4000000 in
theorem lead5_ok {n : Nat} {c : Nat → RawZ} (h : wl n c) : FnOK Tryz.prog false 117 [.c (zl n c)] (.g (nz (ldc n (vz c)))) := by
  have h1 := degree5_ok h
  have h2 := at5_ok (i := ((tl (vz c) n : Nat) - 1)) h
  refine fn_ok (E := E0) E0_ok Tryz.func117 rfl mixed (by kernel_rfl) (by kernel_rfl) ?_
  conv => whnf
  refine ⟨_, h1, ?_⟩
  conv => whnf
  refine ⟨_, h2, ?_⟩
  conv => whnf
  exact ⟨rfl, Sub.refl _⟩
/-- A field's form. -/
def formed (n : Nat) (v : Nat → Int) : Prop := 2 ≤ tl v n ∧ tl v n ≤ 13 ∧ ldc n v = 1
instance (n : Nat) (v : Nat → Int) : Decidable (formed n v) := by unfold formed; infer_instance
end Rf
end Go.Proofs.YtmbejakmeijcbaaGreat
/- The document's integers in normal form: products; the same as themselves. -/
namespace Go.Proofs.YtmbejakmeijcbaaGreat
open Go.RowKit
namespace Rf
theorem zmul_n {a b : Int} (h : zlen a + zlen b ≤ 1048576) : FnOK Tryz.prog false 123 [.g (nz a), .g (nz b)] (.g (nz (a * b))) := by
  have := rmulz_ok (a := ofZ a) (b := ofZ b) (wr_nz (by omega)) (wr_nz (by omega)) (by rw [ofZ_val, ofZ_val]; exact h)
  rwa [ofZ_val, ofZ_val] at this
theorem sub_nil0 {sz n : Nat} {f : Nat → Nat → Cell} (h : n = 0) : Sub (.c .nil) (.c (.row sz n f)) := by
  subst h
  intro D w v hv
  have hv : v = .slice none 0 0 := hv
  exact ⟨none, 0, hv, Nat.le_refl _, fun h => absurd h (Nat.lt_irrefl 0)⟩
end Rf
end Go.Proofs.YtmbejakmeijcbaaGreat
/- Lists of integers and of fractions in the program; the form of a number field. -/
namespace Go.Proofs.YtmbejakmeijcbaaGreat
open Go.RowKit
/-- The length without what is dropped at the end. -/
def tb (p : Nat → Bool) : Nat → Nat
  | 0 => 0
  | n + 1 => if p n = true then tb p n else n + 1
theorem tb_tl {p : Nat → Bool} {v : Nat → Int} : ∀ {n : Nat}, (∀ i, i < n → (p i = true ↔ v i = 0)) → tb p n = tl v n
  | 0, _ => rfl
  | n + 1, h => by
    have h1 := h n (by omega)
    unfold tb tl
    rw [tb_tl fun i hi => h i (by omega)]
    by_cases c : v n = 0
    · rw [if_pos (h1.2 c), if_pos c]
    · rw [if_neg (fun e => c (h1.1 e)), if_neg c]
/-- A list of fractions as its fields stand. -/
abbrev qlF (q : Nat → RawR) (i j : Nat) : Cell := (rr (q i)).getD j .any
abbrev ql (n : Nat) (q : Nat → RawR) : Cell := .row 4 n (qlF q)
theorem qlF_eq {c e : Nat → RawR} {i j k : Nat} (h : c i = e k) : qlF c i j = qlF e k j := by unfold qlF; rw [h]
theorem ql_clos {c : Nat → RawR} (i j : Nat) : (qlF c i j).clos = true := by
  match j with
  | 0 => rfl
  | 1 => rfl
  | 2 => rfl
  | 3 => rfl
  | j + 4 => rfl
namespace Rf
set_option maxHeartbeats 4000000 in
theorem ztrim_ok {n : Nat} {c : Nat → RawZ} (hn : n ≤ 1048576) : FnOK Tryz.prog false 162 [.c (zl n c)] (.c (zl (tb (fun i => decide ((c i).ds.length = 0)) n) c)) := by
  refine fn_ok (E := E0) E0_ok Tryz.func162 rfl mixed (by kernel_rfl) (by kernel_rfl) ?_
  conv => whnf
  refine loop_ints (fun m : Nat => gst [(0, .c (zl m c))] []) (fun m => m) (fun m => m ≤ n ∧ tb (fun i => decide ((c i).ds.length = 0)) m = tb (fun i => decide ((c i).ds.length = 0)) n) n rfl (Weak.gen [] rfl trivial ⟨.inl ⟨_, _, rfl, rfl, fun _ _ _ _ => rfl⟩, trivial⟩) ⟨Nat.le_refl _, rfl⟩ fun m ⟨hm, ht⟩ => ?_
  have hz : ∀ k, m = k + 1 → (c k).ds.length = 0 → tb (fun i => decide ((c i).ds.length = 0)) k = tb (fun i => decide ((c i).ds.length = 0)) n := fun k e h => by
    rw [← ht, e]
    simp only [tb]
    rw [if_pos (decide_eq_true h)]
  have hz' : ∀ k, m = k + 1 → (c k).ds.length ≠ 0 → m = tb (fun i => decide ((c i).ds.length = 0)) n := fun k e h => by
    rw [← ht, e]
    simp only [tb]
    rw [if_neg (by simpa using h)]
  have h0 : m = 0 → m = tb (fun i => decide ((c i).ds.length = 0)) n := fun e => by rw [← ht, e]; rfl
  clear ht
  generalize tb (fun i => decide ((c i).ds.length = 0)) n = N at *
  conv => whnf
  refine bcase (fun (h : gw true (decide ((0 : Int) < m)) = true) => ?_) fun (h : gw true (decide ((0 : Int) < m)) = false) => ?_
  · have h := of_decide_eq_true (gw_true.1 h)
    have ek : m = ((m : Int) - 1).toNat + 1 := by omega
    have g1 := hz _ ek
    have g2 := hz' _ ek
    conv => whnf
    refine ⟨i64 (by omega) (by omega), ?_⟩
    conv => whnf
    refine ⟨by omega, by omega, ?_⟩
    conv => whnf
    refine bcase (fun (h1 : decide (((c ((m : Int) - 1).toNat).ds.length : Int) = 0) = true) => ?_) fun (h1 : decide (((c ((m : Int) - 1).toNat).ds.length : Int) = 0) = false) => ?_
    · have h1 := of_decide_eq_true h1
      have g := g1 (by omega)
      conv => whnf
      refine ⟨i64 (by omega) (by omega), ?_⟩
      conv => whnf
      refine ⟨by omega, by omega, ?_⟩
      conv => whnf
      refine ⟨by omega, ?_⟩
      conv => whnf
      exact ⟨((m : Int) - 1).toNat, by omega, Weak.gen [] rfl trivial ⟨.inl ⟨_, _, rfl, by omega, fun i j hi hj => zlF_eq (c := c) (e := c) (i := Int.toNat 0 + i) (k := i) (congrArg c (by omega))⟩, trivial⟩, by omega, g⟩
    · have h1 := of_decide_eq_false h1
      have g := g2 (by omega)
      conv => whnf
      exact ⟨rfl, subRowG g fun _ _ _ _ => rfl⟩
  · have h : ¬ (0 : Int) < m := of_decide_eq_false (gw_false.1 h)
    have g := h0 (by omega)
    conv => whnf
    exact ⟨rfl, subRowG g fun _ _ _ _ => rfl⟩
set_option maxHeartbeats 4000000 in
theorem qtrim_ok {n : Nat} {c : Nat → RawR} (hn : n ≤ 1048576) : FnOK Tryz.prog false 160 [.c (ql n c)] (.c (ql (tb (fun i => decide ((c i).num.ds.length = 0)) n) c)) := by
  refine fn_ok (E := E0) E0_ok Tryz.func160 rfl mixed (by kernel_rfl) (by kernel_rfl) ?_
  conv => whnf
  refine loop_ints (fun m : Nat => gst [(0, .c (ql m c))] []) (fun m => m) (fun m => m ≤ n ∧ tb (fun i => decide ((c i).num.ds.length = 0)) m = tb (fun i => decide ((c i).num.ds.length = 0)) n) n rfl (Weak.gen [] rfl trivial ⟨.inl ⟨_, _, rfl, rfl, fun _ _ _ _ => rfl⟩, trivial⟩) ⟨Nat.le_refl _, rfl⟩ fun m ⟨hm, ht⟩ => ?_
  have hz : ∀ k, m = k + 1 → (c k).num.ds.length = 0 → tb (fun i => decide ((c i).num.ds.length = 0)) k = tb (fun i => decide ((c i).num.ds.length = 0)) n := fun k e h => by
    rw [← ht, e]
    simp only [tb]
    rw [if_pos (decide_eq_true h)]
  have hz' : ∀ k, m = k + 1 → (c k).num.ds.length ≠ 0 → m = tb (fun i => decide ((c i).num.ds.length = 0)) n := fun k e h => by
    rw [← ht, e]
    simp only [tb]
    rw [if_neg (by simpa using h)]
  have h0 : m = 0 → m = tb (fun i => decide ((c i).num.ds.length = 0)) n := fun e => by rw [← ht, e]; rfl
  clear ht
  generalize tb (fun i => decide ((c i).num.ds.length = 0)) n = N at *
  conv => whnf
  refine bcase (fun (h : gw true (decide ((0 : Int) < m)) = true) => ?_) fun (h : gw true (decide ((0 : Int) < m)) = false) => ?_
  · have h := of_decide_eq_true (gw_true.1 h)
    have ek : m = ((m : Int) - 1).toNat + 1 := by omega
    have g1 := hz _ ek
    have g2 := hz' _ ek
    conv => whnf
    refine ⟨i64 (by omega) (by omega), ?_⟩
    conv => whnf
    refine ⟨by omega, by omega, ?_⟩
    conv => whnf
    refine bcase (fun (h1 : decide (((c ((m : Int) - 1).toNat).num.ds.length : Int) = 0) = true) => ?_) fun (h1 : decide (((c ((m : Int) - 1).toNat).num.ds.length : Int) = 0) = false) => ?_
    · have h1 := of_decide_eq_true h1
      have g := g1 (by omega)
      conv => whnf
      refine ⟨i64 (by omega) (by omega), ?_⟩
      conv => whnf
      refine ⟨by omega, by omega, ?_⟩
      conv => whnf
      refine ⟨by omega, ?_⟩
      conv => whnf
      exact ⟨((m : Int) - 1).toNat, by omega, Weak.gen [] rfl trivial ⟨.inl ⟨_, _, rfl, by omega, fun i j hi hj => qlF_eq (c := c) (e := c) (i := Int.toNat 0 + i) (k := i) (congrArg c (by omega))⟩, trivial⟩, by omega, g⟩
    · have h1 := of_decide_eq_false h1
      have g := g2 (by omega)
      conv => whnf
      exact ⟨rfl, subRowG g fun _ _ _ _ => rfl⟩
  · have h : ¬ (0 : Int) < m := of_decide_eq_false (gw_false.1 h)
    have g := h0 (by omega)
    conv => whnf
    exact ⟨rfl, subRowG g fun _ _ _ _ => rfl⟩
end Rf
end Go.Proofs.YtmbejakmeijcbaaGreat
/- Normal forms of lists in the program, and the form of a number field. -/
namespace Go.Proofs.YtmbejakmeijcbaaGreat
open Go.RowKit
namespace Rf
/-- A list that is normal up to a place, and 0 behind it. -/
def zpF (v : Nat → Int) (i k : Nat) : List Cell := if k < i then nz (v k) else [.bool false, .nil]
theorem zp_next (v : Nat → Int) (i k : Nat) : (if k = i then nz (v i) else zpF v i k) = zpF v (i + 1) k := by
  unfold zpF
  by_cases e : k = i
  · rw [if_pos e, if_pos (by omega), e]
  · rw [if_neg e]
    by_cases e2 : k < i
    · rw [if_pos e2, if_pos (by omega)]
    · rw [if_neg e2, if_neg (by omega)]
theorem zp_clos {v : Nat → Int} {i : Nat} (k j : Nat) : ((zpF v i k).getD j .any).clos = true := by
  unfold zpF
  split
  · exact zl_clos (c := fun i => ofZ (v i)) k j
  · match j with
    | 0 => rfl
    | 1 => rfl
    | j + 2 => rfl
theorem zp_all {v : Nat → Int} {n k : Nat} (h : k < n) (j : Nat) : (zpF v n k).getD j .any = zlF (fun i => ofZ (v i)) k j := by
  unfold zpF; rw [if_pos h]
theorem zp_zero (v : Nat → Int) (k : Nat) : zpF v 0 k = [.bool false, .nil] := by
  unfold zpF; rw [if_neg (Nat.not_lt_zero k)]
abbrev gzp (n : Nat) (v : Nat → Int) (i : Nat) : Gx := ⟨44, 2, n, fun k j => (zpF v i k).getD j .any⟩
set_option maxHeartbeats 4000000 in
theorem znormal_ok {n : Nat} {c : Nat → RawZ} (h : wl n c) : FnOK Tryz.prog true 127 [.c (zl n c)] (.c (nl (tl (vz c) n) (vz c))) := by
  have hn := h.1
  have h1 : ∀ i, i < n → FnOK Tryz.prog true 161 [.g (zr (c i))] (.g (nz (vz c i))) := fun i hi => normal_ok (h.2 i hi).1 (Nat.le_trans (h.2 i hi).2 (by decide))
  have h2 : FnOK Tryz.prog true 162 [.c (nl n (vz c))] (.c (nl (tl (vz c) n) (vz c))) := by
    have := (ztrim_ok (c := fun i => ofZ (vz c i)) hn).weak (r := true)
    rwa [tb_tl (p := fun i => decide ((ofZ (vz c i)).ds.length = 0)) (v := vz c) (n := n) fun i _ => ⟨fun a => zlen_eq_zero.1 (of_decide_eq_true a), fun a => decide_eq_true (zlen_eq_zero.2 a)⟩] at this
  clear h
  generalize vz c = v at *
  have hT : ∀ i, i = n → FnOK Tryz.prog true 162 [.c (.row 2 n fun k j => (zpF v i k).getD j .any)] (.c (nl (tl v n) v)) := fun i e => arg_ok h2 fun D w vs h => by
    match vs, h with
    | [v1], ⟨h1, _⟩ => exact ⟨subRowG rfl (fun k j hk hj => by rw [e]; exact zp_all hk j) D w v1 h1, trivial⟩
  refine fn_ok (E := E1) E1_ok Tryz.func127 rfl mixed (by kernel_rfl) (by kernel_rfl) ?_
  conv => whnf
  refine ⟨by omega, Int.le_refl _, by omega, by show (32 : Int) * n ≤ 281474976710656; omega, ?_⟩
  conv => whnf
  refine loop_ints (fun i : Nat => gst [(3, .c (.gs 0 0)), (9, .c (zl n c)), (10, .c (.int .i64 n)), (11, .c (.int .i64 i))] [gzp n v i]) (fun i => n - i) (fun i => i ≤ n) 0 rfl (Weak.gen [some 0] rfl ⟨⟨_, rfl, rfl, rfl, by show Int.toNat n = n; omega, rfl, fun k j hk hj => ?_⟩, trivial⟩ ⟨⟨_, rfl, rfl, rfl⟩, .inl ⟨_, _, rfl, rfl, fun _ _ _ _ => rfl⟩, ⟨_, rfl, rfl⟩, ⟨_, rfl, rfl⟩, trivial⟩) (Nat.zero_le _) fun i hi => ?_
  · exact regE (congrArg (fun l => l.getD j .any) (zp_zero v k).symm) (zp_clos k j)
  conv => whnf
  refine bcase (fun (h : decide ((i : Int) < n) = true) => ?_) fun (h : decide ((i : Int) < n) = false) => ?_
  · have h := of_decide_eq_true h
    have g1 := h1 i (by omega)
    conv => whnf
    refine ⟨by omega, by omega, ?_⟩
    conv => whnf
    refine ⟨_, g1, ?_⟩
    conv => whnf
    refine ⟨by omega, by show (i : Int) < (n : Int); omega, ?_⟩
    conv => whnf
    refine ⟨i64 (by omega) (by omega), ?_⟩
    conv => whnf
    refine ⟨i + 1, by omega, Weak.gen [some 0] rfl ⟨⟨_, rfl, rfl, rfl, rfl, rfl, fun j k hj hk => regE ?_ (zp_clos j k)⟩, trivial⟩ ⟨⟨_, rfl, rfl, rfl⟩, .inl ⟨_, _, rfl, rfl, fun _ _ _ _ => rfl⟩, ⟨_, rfl, rfl⟩, ⟨_, rfl, rfl⟩, trivial⟩, by omega⟩
    exact updG (sz := 2) (g := zpF v i) (g' := zpF v (i + 1)) (l := nz (v i)) rfl hk (zp_next v i j)
  · have h := of_decide_eq_false h
    have g := hT i (by omega)
    conv => whnf
    refine ⟨fun k j _ _ => zp_clos k j, ?_⟩
    conv => whnf
    refine ⟨_, g, ?_⟩
    conv => whnf
    exact ⟨rfl, Sub.refl _⟩
set_option maxHeartbeats 4000000 in
theorem qwhole_ok {a : RawZ} (ha : wr a) : FnOK Tryz.prog true 159 [.g (zr a)] (.g (nq (a.val : Rat))) := by
  have h1 := normal_ok ha.1 (Nat.le_trans ha.2 (by decide))
  have h2 := of_ok (x := 1) (by decide) (by decide)
  refine fn_ok (E := E1) E1_ok Tryz.func159 rfl mixed (by kernel_rfl) (by kernel_rfl) ?_
  conv => whnf
  refine ⟨_, h1, ?_⟩
  conv => whnf
  refine ⟨_, h2, ?_⟩
  conv => whnf
  refine ⟨rfl, leaf (x := (a.val : Rat)) (n := a.val) (d := 1) ?_⟩
  unfold ofR; simp
/-- A list of fractions up to a place, and nothing behind it. -/
def qpF (v : Nat → Rat) (i k : Nat) : List Cell := if k < i then nq (v k) else [.bool false, .nil, .bool false, .nil]
theorem qp_next (v : Nat → Rat) (i k : Nat) : (if k = i then nq (v i) else qpF v i k) = qpF v (i + 1) k := by
  unfold qpF
  by_cases e : k = i
  · rw [if_pos e, if_pos (by omega), e]
  · rw [if_neg e]
    by_cases e2 : k < i
    · rw [if_pos e2, if_pos (by omega)]
    · rw [if_neg e2, if_neg (by omega)]
theorem qp_clos {v : Nat → Rat} {i : Nat} (k j : Nat) : ((qpF v i k).getD j .any).clos = true := by
  unfold qpF
  split
  · exact ql_clos (c := fun i => ofR (v i)) k j
  · match j with
    | 0 => rfl
    | 1 => rfl
    | 2 => rfl
    | 3 => rfl
    | j + 4 => rfl
theorem qp_all {v : Nat → Rat} {n k : Nat} (h : k < n) (j : Nat) : (qpF v n k).getD j .any = qlF (fun i => ofR (v i)) k j := by
  unfold qpF; rw [if_pos h]
theorem qp_zero (v : Nat → Rat) (k : Nat) : qpF v 0 k = [.bool false, .nil, .bool false, .nil] := by
  unfold qpF; rw [if_neg (Nat.not_lt_zero k)]
abbrev gqp (n : Nat) (v : Nat → Rat) (i : Nat) : Gx := ⟨46, 4, n, fun k j => (qpF v i k).getD j .any⟩
/-- A list of fractions in normal form. -/
abbrev nql (n : Nat) (v : Nat → Rat) : Cell := ql n fun i => ofR (v i)
set_option maxHeartbeats 4000000 in
theorem qpof_eq {n : Nat} {c : Nat → RawZ} {v : Nat → Rat} (hv : (fun i => ((vz c i : Int) : Rat)) = v) (h : wl n c) : FnOK Tryz.prog true 126 [.c (zl n c)] (.c (nql (tl (vz c) n) v)) := by
  have hn := h.1
  have h1 : ∀ i, i < n → FnOK Tryz.prog true 159 [.g (zr (c i))] (.g (nq (v i))) := fun i hi => by
    rw [← hv]
    exact qwhole_ok (h.2 i hi)
  have h2 : FnOK Tryz.prog true 160 [.c (nql n fun i => ((vz c i : Int) : Rat))] (.c (nql (tl (vz c) n) fun i => ((vz c i : Int) : Rat))) := by
    have := (qtrim_ok (c := fun i => ofR ((vz c i : Int) : Rat)) hn).weak (r := true)
    rwa [tb_tl (p := fun i => decide ((ofR ((vz c i : Int) : Rat)).num.ds.length = 0)) (v := vz c) (n := n) fun i _ => ⟨fun a => by
      have := zlen_eq_zero.1 (of_decide_eq_true a)
      simpa using this, fun a => decide_eq_true (zlen_eq_zero.2 (by simpa using a))⟩] at this
  rw [hv] at h2
  clear h hv
  generalize tl (vz c) n = N at *
  have hT : ∀ i, i = n → FnOK Tryz.prog true 160 [.c (.row 4 n fun k j => (qpF v i k).getD j .any)] (.c (nql N v)) := fun i e => arg_ok h2 fun D w vs h => by
    match vs, h with
    | [v1], ⟨h1, _⟩ => exact ⟨subRowG rfl (fun k j hk hj => by rw [e]; exact qp_all hk j) D w v1 h1, trivial⟩
  refine fn_ok (E := E1) E1_ok Tryz.func126 rfl mixed (by kernel_rfl) (by kernel_rfl) ?_
  conv => whnf
  refine ⟨by omega, Int.le_refl _, by omega, by show (64 : Int) * n ≤ 281474976710656; omega, ?_⟩
  conv => whnf
  refine loop_ints (fun i : Nat => gst [(3, .c (.gs 0 0)), (9, .c (zl n c)), (10, .c (.int .i64 n)), (11, .c (.int .i64 i))] [gqp n v i]) (fun i => n - i) (fun i => i ≤ n) 0 rfl (Weak.gen [some 0] rfl ⟨⟨_, rfl, rfl, rfl, by show Int.toNat n = n; omega, rfl, fun k j hk hj => ?_⟩, trivial⟩ ⟨⟨_, rfl, rfl, rfl⟩, .inl ⟨_, _, rfl, rfl, fun _ _ _ _ => rfl⟩, ⟨_, rfl, rfl⟩, ⟨_, rfl, rfl⟩, trivial⟩) (Nat.zero_le _) fun i hi => ?_
  · exact regE (congrArg (fun l => l.getD j .any) (qp_zero v k).symm) (qp_clos k j)
  conv => whnf
  refine bcase (fun (h : decide ((i : Int) < n) = true) => ?_) fun (h : decide ((i : Int) < n) = false) => ?_
  · have h := of_decide_eq_true h
    have g1 := h1 i (by omega)
    conv => whnf
    refine ⟨by omega, by omega, ?_⟩
    conv => whnf
    refine ⟨_, g1, ?_⟩
    conv => whnf
    refine ⟨by omega, by show (i : Int) < (n : Int); omega, ?_⟩
    conv => whnf
    refine ⟨i64 (by omega) (by omega), ?_⟩
    conv => whnf
    refine ⟨i + 1, by omega, Weak.gen [some 0] rfl ⟨⟨_, rfl, rfl, rfl, rfl, rfl, fun j k hj hk => regE ?_ (qp_clos j k)⟩, trivial⟩ ⟨⟨_, rfl, rfl, rfl⟩, .inl ⟨_, _, rfl, rfl, fun _ _ _ _ => rfl⟩, ⟨_, rfl, rfl⟩, ⟨_, rfl, rfl⟩, trivial⟩, by omega⟩
    exact updG (sz := 4) (g := qpF v i) (g' := qpF v (i + 1)) (l := nq (v i)) rfl hk (qp_next v i j)
  · have h := of_decide_eq_false h
    have g := hT i (by omega)
    conv => whnf
    refine .inr ⟨fun k j _ _ => qp_clos k j, ?_⟩
    conv => whnf
    refine ⟨_, g, ?_⟩
    conv => whnf
    exact ⟨rfl, Sub.refl _⟩
set_option maxHeartbeats 4000000 in
theorem qcmp_ok {q p : RawR} {L L' : Nat} (h : q.Fit L) (h' : p.Fit L') (h0 : 1 ≤ L') (hL : L + L' + 4 ≤ LIM) {K : Nat} (hf : qlen (q.val - p.val) ≤ K) (hK : K + 3 ≤ LIM) : FnOK Tryz.prog true 79 [.g (rr q), .g (rr p)] (.c (.int .i64 (q.val - p.val).num.sign)) := by
  have h1 := qsub_ok h h' h0 (by omega)
  have h2 := qsign_ok (q := ofR (q.val - p.val)) (ofR_fit hf) hK
  rw [ofR_val] at h2
  refine fn_ok (E := E1) E1_ok Tryz.func79 rfl mixed (by kernel_rfl) (by kernel_rfl) ?_
  conv => whnf
  refine ⟨_, h1, ?_⟩
  conv => whnf
  refine ⟨_, h2, ?_⟩
  conv => whnf
  exact ⟨rfl, Sub.refl _⟩
theorem qlen_int {x : Int} {L : Nat} (h : zlen x ≤ L) (h1 : 1 ≤ L) : qlen (x : Rat) ≤ L := by
  have z1 : zlen 1 = 1 := rfl
  unfold qlen
  rw [show ((x : Rat).num) = x by simp, show (((x : Rat).den : Nat) : Int) = 1 by simp]
  omega
/-- A normal fraction compared with 1. -/
theorem qcmp_one {x : Int} (h : zlen x ≤ 1048576) : FnOK Tryz.prog true 79 [.g (nq (x : Rat)), .g (nq ((1 : Int) : Rat))] (.c (.int .i64 (x - 1).sign)) := by
  have z1 : zlen 1 = 1 := rfl
  have h1 : qlen ((x : Rat) - ((1 : Int) : Rat)) ≤ 1048577 := by
    rw [← Rat.intCast_sub]
    refine qlen_int ?_ (by decide)
    have := zlen_add x (-1)
    rw [zlen_neg] at this
    rw [Int.sub_eq_add_neg]
    omega
  have := qcmp_ok (q := ofR (x : Rat)) (p := ofR ((1 : Int) : Rat)) (ofR_fit (qlen_int h (by decide))) (ofR_fit (qlen_int (x := 1) (L := 1) (by omega) (by decide))) (by decide) (by decide) (K := 1048577) (by rw [ofR_val, ofR_val]; exact h1) (by decide)
  rw [ofR_val, ofR_val, ← Rat.intCast_sub, Rat.num_intCast] at this
  exact this
end Rf
end Go.Proofs.YtmbejakmeijcbaaGreat
/- Short lists of fractions. -/
namespace Go.Proofs.YtmbejakmeijcbaaGreat
open Go.RowKit
namespace Rf
def dgq (a : RawR) : Prop := Dg.ok a.num.ds ∧ Dg.ok a.den.ds
end Rf
end Go.Proofs.YtmbejakmeijcbaaGreat
/- Polynomials over the rational numbers, as functions: sums of products, and division by a monic one. No condition. -/
namespace Go.Proofs.YtmbejakmeijcbaaGreat
namespace Q
/-- The sum of the first n. -/
def su (f : Nat → Rat) : Nat → Rat
  | 0 => 0
  | n + 1 => su f n + f n
theorem su_congr {f g : Nat → Rat} : ∀ {n : Nat}, (∀ i, i < n → f i = g i) → su f n = su g n
  | 0, _ => rfl
  | n + 1, h => by
    unfold su
    rw [su_congr fun i hi => h i (by omega), h n (by omega)]
theorem su_add {f g : Nat → Rat} : ∀ {n : Nat}, su (fun i => f i + g i) n = su f n + su g n
  | 0 => (Rat.add_zero 0).symm
  | n + 1 => by
    unfold su
    rw [su_add]
    grind
theorem su_mul {c : Rat} {f : Nat → Rat} : ∀ {n : Nat}, su (fun i => c * f i) n = c * su f n
  | 0 => (Rat.mul_zero c).symm
  | n + 1 => by
    unfold su
    rw [su_mul, Rat.mul_add]
theorem su_zero {f : Nat → Rat} : ∀ {n : Nat}, (∀ i, i < n → f i = 0) → su f n = 0
  | 0, _ => rfl
  | n + 1, h => by
    unfold su
    rw [su_zero fun i hi => h i (by omega), h n (by omega), Rat.add_zero]
theorem su_head {f : Nat → Rat} : ∀ {n : Nat}, su f (n + 1) = f 0 + su (fun i => f (i + 1)) n
  | 0 => by show 0 + f 0 = f 0 + 0; rw [Rat.add_comm]
  | n + 1 => by
    show su f (n + 1) + f (n + 1) = f 0 + (su (fun i => f (i + 1)) n + f (n + 1))
    rw [su_head, Rat.add_assoc]
theorem su_rev : ∀ {n : Nat} {f : Nat → Rat}, su f n = su (fun i => f (n - 1 - i)) n
  | 0, _ => rfl
  | n + 1, f => by
    rw [su_head, su_rev (n := n)]
    show f 0 + su (fun i => f (n - 1 - i + 1)) n = su (fun i => f (n + 1 - 1 - i)) n + f (n + 1 - 1 - n)
    rw [show n + 1 - 1 - n = 0 by omega, su_congr (g := fun i => f (n + 1 - 1 - i)) fun i hi => by
      show f (n - 1 - i + 1) = f (n + 1 - 1 - i)
      rw [show n - 1 - i + 1 = n + 1 - 1 - i by omega]]
    rw [Rat.add_comm]
theorem su_more {f : Nat → Rat} {n : Nat} (h : ∀ i, n ≤ i → f i = 0) : ∀ {m : Nat}, n ≤ m → su f m = su f n
  | 0, hm => by rw [show n = 0 by omega]
  | m + 1, hm => by
    rcases Nat.lt_or_ge m n with h1 | h1
    · rw [show n = m + 1 by omega]
    · rw [← su_more h h1]
      show su f m + f m = su f m
      rw [h m h1, Rat.add_zero]
/-- One term alone. -/
theorem su_one {f : Nat → Rat} {t : Nat} : ∀ {n : Nat}, t < n → (∀ i, i < n → i ≠ t → f i = 0) → su f n = f t
  | 0, h, _ => absurd h (Nat.not_lt_zero t)
  | n + 1, h, h0 => by
    unfold su
    by_cases e : t = n
    · subst e
      rw [su_zero fun i hi => h0 i (by omega) (by omega), Rat.zero_add]
    · rw [su_one (t := t) (by omega) fun i hi he => h0 i (by omega) he, h0 n (by omega) (fun h => e h.symm), Rat.add_zero]
/-- The product's coefficient. -/
def cf (F G : Nat → Rat) (k : Nat) : Rat := su (fun i => F i * G (k - i)) (k + 1)
theorem cf_comm (F G : Nat → Rat) (k : Nat) : cf F G k = cf G F k := by
  unfold cf
  rw [su_rev]
  refine su_congr fun i hi => ?_
  rw [show k + 1 - 1 - i = k - i by omega, show k - (k - i) = i by omega, Rat.mul_comm]
theorem cf_add (F G H : Nat → Rat) (k : Nat) : cf F (fun i => G i + H i) k = cf F G k + cf F H k := by
  unfold cf
  rw [← su_add]
  exact su_congr fun i _ => Rat.mul_add _ _ _
theorem cf_smul (c : Rat) (F G : Nat → Rat) (k : Nat) : cf (fun i => c * F i) G k = c * cf F G k := by
  unfold cf
  rw [← su_mul]
  exact su_congr fun i _ => Rat.mul_assoc _ _ _
theorem cf_add_left (F G H : Nat → Rat) (k : Nat) : cf (fun i => F i + G i) H k = cf F H k + cf G H k := by
  rw [cf_comm, cf_add, cf_comm H F, cf_comm H G]
theorem cf_congr {F F' G G' : Nat → Rat} (h : ∀ i, F i = F' i) (h' : ∀ i, G i = G' i) (k : Nat) : cf F G k = cf F' G' k :=
  su_congr fun i _ => by rw [h, h']
/-- A triangle, summed by rows or by columns. -/
theorem su_tri {f : Nat → Nat → Rat} : ∀ {n : Nat}, su (fun i => su (fun j => f j (i - j)) (i + 1)) n = su (fun j => su (fun l => f j l) (n - j)) n
  | 0 => rfl
  | n + 1 => by
    show su (fun i => su (fun j => f j (i - j)) (i + 1)) n + su (fun j => f j (n - j)) (n + 1) = su (fun j => su (fun l => f j l) (n + 1 - j)) n + su (fun l => f n l) (n + 1 - n)
    rw [su_tri, show n + 1 - n = 0 + 1 by omega]
    have e : su (fun j => su (fun l => f j l) (n + 1 - j)) n = su (fun j => su (fun l => f j l) (n - j) + f j (n - j)) n := su_congr fun j hj => by
      show su (fun l => f j l) (n + 1 - j) = _
      rw [show n + 1 - j = n - j + 1 by omega]
      rfl
    rw [e, su_add]
    show _ + (su (fun j => f j (n - j)) n + f n (n - n)) = _ + (0 + f n 0)
    rw [Nat.sub_self, Rat.zero_add, Rat.add_assoc]
theorem cf_assoc (F G H : Nat → Rat) (k : Nat) : cf (fun i => cf F G i) H k = cf F (fun i => cf G H i) k := by
  have e1 : cf (fun i => cf F G i) H k = su (fun i => su (fun j => F j * G (i - j) * H (k - (i - j) - j)) (i + 1)) (k + 1) := su_congr fun i hi => by
    show su (fun j => F j * G (i - j)) (i + 1) * H (k - i) = _
    rw [Rat.mul_comm, ← su_mul]
    refine su_congr fun j hj => ?_
    rw [show k - (i - j) - j = k - i by omega, Rat.mul_comm]
  have e2 : cf F (fun i => cf G H i) k = su (fun j => su (fun l => F j * G l * H (k - l - j)) (k + 1 - j)) (k + 1) := su_congr fun j hj => by
    show F j * su (fun l => G l * H (k - j - l)) (k - j + 1) = _
    rw [← su_mul, show k - j + 1 = k + 1 - j by omega]
    refine su_congr fun l hl => ?_
    rw [show k - l - j = k - j - l by omega, Rat.mul_assoc]
  rw [e1, e2]
  exact su_tri (f := fun j l => F j * G l * H (k - l - j))
/-- Nothing from the place n on. -/
def Fin (n : Nat) (F : Nat → Rat) : Prop := ∀ k, n ≤ k → F k = 0
theorem Fin.mono {n m : Nat} {F : Nat → Rat} (h : Fin n F) (hm : n ≤ m) : Fin m F := fun k hk => h k (by omega)
theorem Fin.add {n : Nat} {F G : Nat → Rat} (h : Fin n F) (h' : Fin n G) : Fin n fun i => F i + G i := fun k hk => by
  show F k + G k = 0
  rw [h k hk, h' k hk, Rat.add_zero]
theorem Fin.smul {n : Nat} {F : Nat → Rat} (c : Rat) (h : Fin n F) : Fin n fun i => c * F i := fun k hk => by
  show c * F k = 0
  rw [h k hk, Rat.mul_zero]
theorem Fin.cf {n m : Nat} {F G : Nat → Rat} (h : Fin n F) (h' : Fin m G) : Fin (n + m) (cf F G) := fun k hk => su_zero fun i hi => by
  rcases Nat.lt_or_ge i n with c | c
  · rw [h' (k - i) (by omega), Rat.mul_zero]
  · rw [h i c, Rat.zero_mul]
/-- Monic of degree n. -/
structure Mon (n : Nat) (f : Nat → Rat) : Prop where
  top : f n = 1
  fin : Fin (n + 1) f
/-- The coefficient at the top of a product with a monic one. -/
theorem cf_top {n t : Nat} {f q : Nat → Rat} (hf : Mon n f) (hq : Fin (t + 1) q) : cf q f (t + n) = q t := by
  have h : cf q f (t + n) = q t * f (t + n - t) := su_one (t := t) (by omega) fun i hi he => by
    rcases Nat.lt_or_ge i (t + 1) with c | c
    · rw [hf.fin (t + n - i) (by omega), Rat.mul_zero]
    · rw [hq i c, Rat.zero_mul]
  rw [h, show t + n - t = n by omega, hf.top, Rat.mul_one]
/-- A multiple of a monic one that is shorter is nothing. -/
theorem no_multiple {n : Nat} {f : Nat → Rat} (hf : Mon n f) : ∀ {N : Nat} {q : Nat → Rat}, Fin N q → (∀ k, n ≤ k → cf q f k = 0) → ∀ k, q k = 0
  | 0, _, hq, _, k => hq k (Nat.zero_le k)
  | N + 1, q, hq, h, k => by
    have h1 : q N = 0 := by
      have := h (N + n) (by omega)
      rwa [cf_top hf hq] at this
    exact no_multiple hf (N := N) (fun k hk => by
      rcases Nat.lt_or_ge N k with c | c
      · exact hq k (by omega)
      · rw [show k = N by omega]; exact h1) h k
/-- r is the rest of p behind a division by f, of degree n. -/
def Rm (n : Nat) (f p r : Nat → Rat) : Prop := Fin n r ∧ ∃ (N : Nat) (q : Nat → Rat), Fin N q ∧ ∀ k, p k = cf q f k + r k
theorem cf_neg (F G : Nat → Rat) (k : Nat) : cf (fun i => -F i) G k = -cf F G k := by
  have := cf_smul (-1) F G k
  rw [cf_congr (F := fun i => -F i) (F' := fun i => -1 * F i) (G' := G) (fun i => by grind) (fun _ => rfl), this]
  grind
theorem Rm.eq {n : Nat} {f p r s : Nat → Rat} (hf : Mon n f) (h : Rm n f p r) (h' : Rm n f p s) : ∀ k, r k = s k := by
  obtain ⟨h1, N, q, h2, h3⟩ := h
  obtain ⟨g1, M, t, g2, g3⟩ := h'
  have hd : ∀ k, cf (fun i => q i + -t i) f k = s k - r k := fun k => by
    rw [cf_add_left, cf_neg]
    have a := h3 k
    have b := g3 k
    grind
  have hz := no_multiple hf (N := max N M) (q := fun i => q i + -t i) (fun k hk => by
    show q k + -t k = 0
    rw [h2 k (by omega), g2 k (by omega)]; grind) fun k hk => by
      rw [hd, h1 k hk, g1 k hk]; grind
  intro k
  have a := hd k
  rw [cf_congr (F' := fun _ => 0) (G' := f) hz (fun _ => rfl)] at a
  have b : cf (fun _ => 0) f k = 0 := su_zero fun i _ => Rat.zero_mul _
  rw [b] at a
  grind
/-- What is short already is its own rest. -/
theorem Rm.self {n : Nat} {f r : Nat → Rat} (h : Fin n r) : Rm n f r r :=
  ⟨h, 0, fun _ => 0, fun _ _ => rfl, fun k => by
    rw [show cf (fun _ => 0) f k = 0 from su_zero fun i _ => Rat.zero_mul _, Rat.zero_add]⟩
theorem Rm.congr {n : Nat} {f p p' r : Nat → Rat} (h : Rm n f p r) (e : ∀ k, p k = p' k) : Rm n f p' r := by
  obtain ⟨h1, N, q, h2, h3⟩ := h
  exact ⟨h1, N, q, h2, fun k => by rw [← e, h3]⟩
theorem Rm.smul {n : Nat} {f p r : Nat → Rat} (c : Rat) (h : Rm n f p r) : Rm n f (fun k => c * p k) fun k => c * r k := by
  obtain ⟨h1, N, q, h2, h3⟩ := h
  refine ⟨h1.smul c, N, fun i => c * q i, h2.smul c, fun k => ?_⟩
  rw [cf_smul]
  have a := h3 k
  grind
/-- The rest of a rest's multiple. -/
theorem Rm.mul {n m : Nat} {f p r g s : Nat → Rat} (h : Rm n f p r) (hg : Fin m g) (h' : Rm n f (cf r g) s) : Rm n f (cf p g) s := by
  obtain ⟨h1, N, q, h2, h3⟩ := h
  obtain ⟨g1, M, t, g2, g3⟩ := h'
  refine ⟨g1, max (N + m) M, fun i => cf q g i + t i, ((h2.cf hg).mono (Nat.le_max_left _ _)).add (g2.mono (Nat.le_max_right _ _)), fun k => ?_⟩
  rw [cf_add_left]
  have a : cf p g k = cf (cf q f) g k + cf r g k := by
    rw [cf_congr (F' := fun i => cf q f i + r i) (G' := g) h3 (fun _ => rfl), cf_add_left]
  have b : cf (cf q f) g k = cf (cf q g) f k := by
    have e1 := cf_assoc q f g k
    have e2 := cf_assoc q g f k
    rw [show cf (cf q f) g k = cf (fun i => cf q f i) g k from rfl, e1, show cf (cf q g) f k = cf (fun i => cf q g i) f k from rfl, e2]
    exact cf_congr (fun _ => rfl) (fun i => cf_comm f g i) k
  have c := g3 k
  rw [a, b, c]
  grind
/-- The steps of a division by a monic one: for N - 1 down to 0. -/
def dv (n : Nat) (f : Nat → Rat) : Nat → (Nat → Rat) → Nat → Rat
  | 0, p => p
  | N + 1, p => dv n f N fun k => p k - (if N ≤ k then p (N + n) * f (k - N) else 0)
theorem cf_mono (c : Rat) (N : Nat) (f : Nat → Rat) (k : Nat) : cf (fun i => if i = N then c else 0) f k = if N ≤ k then c * f (k - N) else 0 := by
  by_cases h : N ≤ k
  · rw [if_pos h]
    have := su_one (f := fun i => (if i = N then c else 0) * f (k - i)) (t := N) (n := k + 1) (by omega) fun i hi he => by
      show (if i = N then c else 0) * _ = 0
      rw [if_neg he, Rat.zero_mul]
    show su _ _ = _
    rw [this]
    show (if N = N then c else 0) * _ = _
    rw [if_pos rfl]
  · rw [if_neg h]
    exact su_zero fun i hi => by
      show (if i = N then c else 0) * _ = 0
      rw [if_neg (by omega), Rat.zero_mul]
theorem dv_rm {n : Nat} {f : Nat → Rat} (hf : Mon n f) : ∀ {N : Nat} {p : Nat → Rat}, Fin (N + n) p → Rm n f p (dv n f N p)
  | 0, p, h => Rm.self (by rw [Nat.zero_add] at h; exact h)
  | N + 1, p, h => by
    have h1 : Fin (N + n) fun k => p k - (if N ≤ k then p (N + n) * f (k - N) else 0) := fun k hk => by
      show p k - (if N ≤ k then p (N + n) * f (k - N) else 0) = 0
      rw [if_pos (by omega)]
      by_cases e : k = N + n
      · rw [e, show N + n - N = n by omega, hf.top]; grind
      · rw [h k (by omega), hf.fin (k - N) (by omega)]; grind
    obtain ⟨g1, M, q, g2, g3⟩ := dv_rm hf h1
    refine ⟨g1, max M (N + 1), fun i => q i + (if i = N then p (N + n) else 0), (g2.mono (Nat.le_max_left _ _)).add (fun k hk => if_neg (by omega)), fun k => ?_⟩
    have a : p k - (if N ≤ k then p (N + n) * f (k - N) else 0) = cf q f k + dv n f N (fun k => p k - (if N ≤ k then p (N + n) * f (k - N) else 0)) k := g3 k
    rw [cf_add_left, cf_mono]
    show p k = _ + dv n f N (fun k => p k - (if N ≤ k then p (N + n) * f (k - N) else 0)) k
    grind
/-- The steps from the top: what stands behind t of N steps. -/
def dvs (n : Nat) (f : Nat → Rat) (N : Nat) (p : Nat → Rat) : Nat → Nat → Rat
  | 0, k => p k
  | t + 1, k => dvs n f N p t k - (if N - 1 - t ≤ k then dvs n f N p t (N - 1 - t + n) * f (k - (N - 1 - t)) else 0)
theorem dvs_dv {n : Nat} {f : Nat → Rat} {N : Nat} {p : Nat → Rat} : ∀ {t : Nat}, t ≤ N → dv n f (N - t) (dvs n f N p t) = dv n f N p
  | 0, _ => rfl
  | t + 1, h => by
    refine Eq.trans ?_ (dvs_dv (n := n) (f := f) (N := N) (p := p) (t := t) (by omega))
    have e : N - t = N - (t + 1) + 1 := by omega
    rw [e]
    show dv n f (N - (t + 1)) _ = dv n f (N - (t + 1)) _
    refine congrArg _ (funext fun k => ?_)
    show dvs n f N p t k - _ = _
    rw [show N - 1 - t = N - (t + 1) by omega]
theorem dvs_rm {n : Nat} {f : Nat → Rat} (hf : Mon n f) {N : Nat} {p : Nat → Rat} (h : Fin (N + n) p) : Rm n f p (dvs n f N p N) := by
  have e : dv n f N p = dvs n f N p N := by
    rw [← dvs_dv (Nat.le_refl N), Nat.sub_self]; rfl
  rw [← e]
  exact dv_rm hf h
/-- A step that is done in part: the first j places. -/
def dpt (c : Rat) (f r : Nat → Rat) (i j k : Nat) : Rat := r k - (if i ≤ k ∧ k < i + j then c * f (k - i) else 0)
theorem dpt_zero (c : Rat) (f r : Nat → Rat) (i k : Nat) : dpt c f r i 0 k = r k := by
  unfold dpt
  rw [if_neg (by omega)]; grind
theorem dpt_old {c : Rat} {f r : Nat → Rat} {i j : Nat} : dpt c f r i j (i + j) = r (i + j) := by
  unfold dpt
  rw [if_neg (by omega)]; grind
theorem dpt_next (c : Rat) (f r : Nat → Rat) (i j k : Nat) : (if k = i + j then r (i + j) - c * f j else dpt c f r i j k) = dpt c f r i (j + 1) k := by
  unfold dpt
  by_cases e : k = i + j
  · rw [if_pos e, if_pos (by omega), e, show i + j - i = j by omega]
  · rw [if_neg e]
    by_cases e2 : i ≤ k ∧ k < i + j
    · rw [if_pos e2, if_pos (by omega)]
    · rw [if_neg e2, if_neg (by omega)]
theorem dpt_all {n : Nat} {f : Nat → Rat} (hf : Fin (n + 1) f) {N : Nat} {p : Nat → Rat} {t : Nat} (k : Nat) : dpt (dvs n f N p t (N - 1 - t + n)) f (dvs n f N p t) (N - 1 - t) (n + 1) k = dvs n f N p (t + 1) k := by
  show _ = dvs n f N p t k - _
  unfold dpt
  by_cases e : N - 1 - t ≤ k
  · rw [if_pos e]
    by_cases e2 : k < N - 1 - t + (n + 1)
    · rw [if_pos ⟨e, e2⟩]
    · rw [if_neg (by omega), hf (k - (N - 1 - t)) (by omega)]; grind
  · rw [if_neg (by omega), if_neg e]
theorem dpt_none {c : Rat} (h : c = 0) (f r : Nat → Rat) (i j k : Nat) : dpt c f r i j k = r k := by
  unfold dpt
  split
  · rw [h]; grind
  · grind
/-- The quotient's coefficient. -/
def dvq (n : Nat) (f : Nat → Rat) (N : Nat) (p : Nat → Rat) (i : Nat) : Rat := dvs n f N p (N - 1 - i) (i + n)
/-- The length without the zeros at the end. -/
def tq (v : Nat → Rat) : Nat → Nat
  | 0 => 0
  | n + 1 => if v n = 0 then tq v n else n + 1
theorem tq_le (v : Nat → Rat) : ∀ n, tq v n ≤ n
  | 0 => Nat.le_refl _
  | n + 1 => by
    unfold tq
    split
    · exact Nat.le_succ_of_le (tq_le v n)
    · exact Nat.le_refl _
theorem tq_top {v : Nat → Rat} : ∀ {n k : Nat}, tq v n = k + 1 → v k ≠ 0
  | 0, k, h => by simp [tq] at h
  | n + 1, k, h => by
    unfold tq at h
    split at h
    · exact tq_top h
    · rename_i h0
      obtain rfl : n = k := by omega
      exact h0
theorem tq_behind {v : Nat → Rat} : ∀ {n k : Nat}, tq v n ≤ k → k < n → v k = 0
  | 0, k, _, h => absurd h (Nat.not_lt_zero k)
  | n + 1, k, h, hk => by
    unfold tq at h
    split at h
    · rename_i h0
      by_cases e : k = n
      · rw [e]; exact h0
      · exact tq_behind h (by omega)
    · omega
theorem tq_self {v : Nat → Rat} {n : Nat} (h : ∀ k, n = k + 1 → v k ≠ 0) : tq v n = n := by
  cases n with
  | zero => rfl
  | succ k => unfold tq; rw [if_neg (h k rfl)]
theorem tq_congr {a b : Nat → Rat} : ∀ {n : Nat}, (∀ i, i < n → a i = b i) → tq a n = tq b n
  | 0, _ => rfl
  | n + 1, h => by
    unfold tq
    rw [h n (by omega), tq_congr fun i hi => h i (by omega)]
/-- The length does not depend on where one starts. -/
theorem tq_eq {v : Nat → Rat} {n m : Nat} (h : Fin n v) (h' : Fin m v) : tq v n = tq v m := by
  have key : ∀ {n m : Nat}, Fin n v → Fin m v → tq v n ≤ tq v m := fun {n m} h h' => by
    rcases Nat.lt_or_ge (tq v m) (tq v n) with c | c
    · obtain ⟨k, hk⟩ : ∃ k, tq v n = k + 1 := ⟨tq v n - 1, by omega⟩
      refine absurd ?_ (tq_top hk)
      rcases Nat.lt_or_ge k m with c' | c'
      · exact tq_behind (by omega) c'
      · exact h' k c'
    · exact c
  exact Nat.le_antisymm (key h h') (key h' h)
theorem tq_fin {v : Nat → Rat} {n : Nat} (h : Fin n v) : Fin (tq v n) v := fun k hk => by
  rcases Nat.lt_or_ge k n with c | c
  · exact tq_behind hk c
  · exact h k c
/-- A list, and 0 behind it. -/
def qx (n : Nat) (v : Nat → Rat) (i : Nat) : Rat := if i < n then v i else 0
theorem qx_fin (n : Nat) (v : Nat → Rat) : Fin n (qx n v) := fun k hk => if_neg (by omega)
theorem qx_lt {n i : Nat} {v : Nat → Rat} (h : i < n) : qx n v i = v i := if_pos h
theorem qx_self {n : Nat} {v : Nat → Rat} (h : Fin n v) : qx n v = v := funext fun k => by
  unfold qx
  split
  · rfl
  · rename_i c; exact (h k (by omega)).symm
/-- A product, row by row: the first i of them. -/
def mu (F G : Nat → Rat) (i k : Nat) : Rat := su (fun a => if a ≤ k then F a * G (k - a) else 0) i
/-- A row that is added in part: the first j places. -/
def mp (c : Rat) (G r : Nat → Rat) (i j k : Nat) : Rat := r k + (if i ≤ k ∧ k < i + j then c * G (k - i) else 0)
end Q
end Go.Proofs.YtmbejakmeijcbaaGreat
/- Blocks as parts of themselves. -/
namespace Go.Proofs.YtmbejakmeijcbaaGreat
open Go.RowKit
/-- A whole block of one's own is also a part of itself. -/
theorem Weak.gs_sl {m0 : Nat} {tm tm' : Nat → V} {bl : List Blk} {k : Nat} {B : Blk} (hB : bl[k]? = some B) (hst : B.st ≤ 1) (ht : ∀ t, tm' t = tm t ∨ (tm t = .c (.gs k B.u) ∧ tm' t = .c (.sl k B.u B.sz 0 B.n))) : Weak m0 ⟨tm, bl⟩ ⟨tm', bl⟩ := by
  rintro C a w hm0 ⟨ρ, hs, hN, hdf, hf⟩
  refine ⟨ρ, hs, hN, hdf, fun t => ?_⟩
  have h := hf t
  rcases ht t with e | ⟨e1, e2⟩
  · show VRel _ _ _ (tm' t) _
    rw [e]; exact h
  · show VRel _ _ _ (tm' t) _
    rw [e2]
    have h : VRel (Dof C.D0 ρ bl) w ρ (tm t) (a.tmps.getD t undef) := h
    rw [e1] at h
    obtain ⟨l, l1, l2, l3⟩ := h
    refine ⟨l, l1, l2, fun hu => ?_⟩
    have ev := l3 hu
    have hat := hs.at_ k l B l1 hB hst
    rcases hat.2 with ⟨p1, p2, p3⟩ | ⟨b, cap, cs, p2, p3, p4, p5, p6, p7, p8, p9⟩
    · have e : l.v = .slice none 0 0 := p3
      have en : l.n = 0 := by unfold Loc.v at e; injection e
      refine ⟨by omega, none, 0, by rw [ev, p3, p1], by omega, fun h => by omega⟩
    · have e : l.v = .slice (some ⟨b, 0, none⟩) B.n cap := p4
      have en : l.n = B.n := by unfold Loc.v at e; injection e
      exact ⟨by omega, some ⟨b, 0, none⟩, cap, by rw [ev, p4], p7, fun _ => ⟨b, p2, by rw [Nat.zero_mul]⟩⟩
end Go.Proofs.YtmbejakmeijcbaaGreat
/- Lists of fractions in the program: what is dropped at the end, in a block of the caller's; the normal form, in a block of its own. -/
namespace Go.Proofs.YtmbejakmeijcbaaGreat
open Go.RowKit
abbrev qB (n : Nat) (c : Nat → RawR) : Blk := ⟨46, 4, n, 0, 0, qlF c⟩
theorem qB_plain (n : Nat) (c : Nat → RawR) : (qB n c).plain := fun _ i j _ _ => ql_clos i j
namespace Rf
theorem ql_lt {c : Nat → RawR} {m : Nat} (i j : Nat) : (qlF c i j).lt m = true := by
  match j with
  | 0 => rfl
  | 1 => rfl
  | 2 => rfl
  | 3 => rfl
  | j + 4 => rfl
theorem tb_tq {p : Nat → Bool} {v : Nat → Rat} : ∀ {n : Nat}, (∀ i, i < n → (p i = true ↔ v i = 0)) → tb p n = Q.tq v n
  | 0, _ => rfl
  | n + 1, h => by
    have h1 := h n (by omega)
    unfold tb Q.tq
    rw [tb_tq fun i hi => h i (by omega)]
    by_cases c : v n = 0
    · rw [if_pos (h1.2 c), if_pos c]
    · rw [if_neg (fun e => c (h1.1 e)), if_neg c]
theorem num_zero (x : Rat) : decide ((ofR x).num.ds.length = 0) = true ↔ x = 0 :=
  ⟨fun a => Rat.num_eq_zero.1 (zlen_eq_zero.1 (of_decide_eq_true a)), fun a => decide_eq_true (zlen_eq_zero.2 (Rat.num_eq_zero.2 a))⟩
theorem qtrim_nql {n : Nat} {v : Nat → Rat} (hn : n ≤ 1048576) : FnOK Tryz.prog true 160 [.c (nql n v)] (.c (nql (Q.tq v n) v)) := by
  have := (qtrim_ok (c := fun i => ofR (v i)) hn).weak (r := true)
  rwa [tb_tq (p := fun i => decide ((ofR (v i)).num.ds.length = 0)) (v := v) fun i _ => num_zero _] at this
set_option maxHeartbeats 4000000 in
theorem qtrim_m {n : Nat} {c : Nat → RawR} (hn : n ≤ 1048576) : FnM Tryz.prog true 160 (qB n c) [.c (.gs 0 0)] (.c (.sl 0 0 4 0 (tb (fun i => decide ((c i).num.ds.length = 0)) n))) (qB n c) [] := by
  obtain ⟨N, hN⟩ : ∃ N, N = tb (fun i => decide ((c i).num.ds.length = 0)) n := ⟨_, rfl⟩
  rw [← hN]
  refine fnm_ok (E := E1m) E1m_ok Tryz.func160 rfl mixed (by kernel_rfl) (by kernel_rfl) rfl ?_
  conv => whnf
  refine loop_inv (fun k σ => ∃ m : Nat, k = m ∧ (m ≤ n ∧ tb (fun i => decide ((c i).num.ds.length = 0)) m = N) ∧ σ = ⟨asg [(0, .c (.sl 0 0 4 0 m))], [qB n c]⟩) n ?_ ?_
  · refine ⟨_, (Weak.cut (tl := [(0, .c (.gs 0 0))]) (bl' := [qB n c]) rfl ⟨rfl, trivial⟩ rfl ⟨fun _ i j _ _ => ql_lt i j, trivial⟩ rfl).trans (Weak.gs_sl (tm' := asg [(0, .c (.sl 0 0 4 0 n))]) (k := 0) (B := qB n c) rfl (Nat.zero_le _) fun t => ?_), n, rfl, ⟨Nat.le_refl _, hN.symm⟩, rfl⟩
    by_cases e : t = 0
    · subst e; exact .inr ⟨rfl, rfl⟩
    · refine .inl ?_
      simp only [asg, if_neg e]
  · rintro k σ' ⟨m, hk, ⟨hm, ht⟩, rfl⟩
    have hz : ∀ k, m = k + 1 → (c k).num.ds.length = 0 → tb (fun i => decide ((c i).num.ds.length = 0)) k = N := fun k e h => by
      rw [← ht, e]
      simp only [tb]
      rw [if_pos (decide_eq_true h)]
    have hz' : ∀ k, m = k + 1 → (c k).num.ds.length ≠ 0 → m = N := fun k e h => by
      rw [← ht, e]
      simp only [tb]
      rw [if_neg (by simpa using h)]
    have h0 : m = 0 → m = N := fun e => by rw [← ht, e]; rfl
    clear ht
    conv => whnf
    refine bcase (fun (h : gw true (decide ((0 : Int) < m)) = true) => ?_) fun (h : gw true (decide ((0 : Int) < m)) = false) => ?_
    · have h := of_decide_eq_true (gw_true.1 h)
      have ek : m = ((m : Int) - 1).toNat + 1 := by omega
      conv => whnf
      refine ⟨i64 (by omega) (by omega), ?_⟩
      conv => whnf
      refine ⟨by omega, by omega, ?_⟩
      conv => whnf
      have ei : 0 + ((m : Int) - 1).toNat = ((m : Int) - 1).toNat := Nat.zero_add _
      have g1 : (c (0 + ((m : Int) - 1).toNat)).num.ds.length = 0 → tb (fun i => decide ((c i).num.ds.length = 0)) ((((m : Int) - 1) - 0).toNat) = N := fun a => by
        rw [ei] at a
        rw [Int.sub_zero]
        exact hz _ ek a
      have g2 : (c (0 + ((m : Int) - 1).toNat)).num.ds.length ≠ 0 → m = N := fun a => by
        rw [ei] at a
        exact hz' _ ek a
      refine bcase (fun (h1 : decide (((c (0 + ((m : Int) - 1).toNat)).num.ds.length : Int) = 0) = true) => ?_) fun (h1 : decide (((c (0 + ((m : Int) - 1).toNat)).num.ds.length : Int) = 0) = false) => ?_
      · have h1 := of_decide_eq_true h1
        have g := g1 (by omega)
        conv => whnf
        refine ⟨i64 (by omega) (by omega), ?_⟩
        conv => whnf
        refine ⟨by omega, by omega, ?_⟩
        conv => whnf
        refine ⟨by omega, ?_⟩
        conv => whnf
        refine ⟨(((m : Int) - 1) - 0).toNat, by omega, ⟨asg [(0, .c (.sl 0 0 4 0 (((m : Int) - 1) - 0).toNat))], [qB n c]⟩, ?_, _, rfl, ⟨by omega, g⟩, rfl⟩
        exact Weak.cut (tl := [(0, .c (.sl 0 0 4 0 (((m : Int) - 1) - 0).toNat))]) (bl' := [qB n c]) rfl ⟨rfl, trivial⟩ rfl ⟨fun _ i j _ _ => ql_lt i j, trivial⟩ rfl
      · have h1 := of_decide_eq_false h1
        have g := g2 (by omega)
        conv => whnf
        exact (Weak.cut (tl := [(0, .c (.sl 0 0 4 0 m))]) (bl' := [qB n c]) rfl ⟨rfl, trivial⟩ rfl ⟨fun _ i j _ _ => ql_lt i j, trivial⟩ rfl).trans (show Weak 1 ⟨asg [(0, .c (.sl 0 0 4 0 m))], [qB n c]⟩ ⟨asg [(0, .c (.sl 0 0 4 0 N))], [qB n c]⟩ from by rw [g]; exact Weak.refl _)
    · have h : ¬ (0 : Int) < m := of_decide_eq_false (gw_false.1 h)
      have g := h0 (by omega)
      conv => whnf
      exact (Weak.cut (tl := [(0, .c (.sl 0 0 4 0 m))]) (bl' := [qB n c]) rfl ⟨rfl, trivial⟩ rfl ⟨fun _ i j _ _ => ql_lt i j, trivial⟩ rfl).trans (show Weak 1 ⟨asg [(0, .c (.sl 0 0 4 0 m))], [qB n c]⟩ ⟨asg [(0, .c (.sl 0 0 4 0 N))], [qB n c]⟩ from by rw [g]; exact Weak.refl _)
set_option maxHeartbeats 4000000 in
theorem qnorm_ok {n : Nat} {q : Nat → RawR} {L : Nat} {v : Nat → Rat} (hv : (fun i => (q i).val) = v) (hn : n ≤ 1048576) (hq : ∀ i, i < n → (q i).Fit L) (hL : L + 3 ≤ LIM) : FnOK Tryz.prog true 183 [.c (ql n q)] (.c (nql (Q.tq v n) v)) := by
  have h1 : ∀ i, i < n → FnOK Tryz.prog true 134 [.g (rr (q i))] (.g (nq (v i))) := fun i hi => by
    rw [← hv]
    exact qnormal_ok (hq i hi) hL
  have h2 := qtrim_nql (v := v) hn
  clear hv hq
  generalize Q.tq v n = N at *
  have hT : ∀ i, i = n → FnOK Tryz.prog true 160 [.c (.row 4 n fun k j => (qpF v i k).getD j .any)] (.c (nql N v)) := fun i e => arg_ok h2 fun D w vs h => by
    match vs, h with
    | [v1], ⟨h1, _⟩ => exact ⟨subRowG rfl (fun k j hk hj => by rw [e]; exact qp_all hk j) D w v1 h1, trivial⟩
  refine fn_ok (E := E1) E1_ok Tryz.func183 rfl mixed (by kernel_rfl) (by kernel_rfl) ?_
  conv => whnf
  refine ⟨by omega, Int.le_refl _, by omega, by show (64 : Int) * n ≤ 281474976710656; omega, ?_⟩
  conv => whnf
  refine loop_ints (fun i : Nat => gst [(3, .c (.gs 0 0)), (9, .c (ql n q)), (10, .c (.int .i64 n)), (11, .c (.int .i64 i))] [gqp n v i]) (fun i => n - i) (fun i => i ≤ n) 0 rfl (Weak.gen [some 0] rfl ⟨⟨_, rfl, rfl, rfl, by show Int.toNat n = n; omega, rfl, fun k j hk hj => ?_⟩, trivial⟩ ⟨⟨_, rfl, rfl, rfl⟩, .inl ⟨_, _, rfl, rfl, fun _ _ _ _ => rfl⟩, ⟨_, rfl, rfl⟩, ⟨_, rfl, rfl⟩, trivial⟩) (Nat.zero_le _) fun i hi => ?_
  · exact regE (congrArg (fun l => l.getD j .any) (qp_zero v k).symm) (qp_clos k j)
  conv => whnf
  refine bcase (fun (h : decide ((i : Int) < n) = true) => ?_) fun (h : decide ((i : Int) < n) = false) => ?_
  · have h := of_decide_eq_true h
    have g1 := h1 i (by omega)
    conv => whnf
    refine ⟨by omega, by omega, ?_⟩
    conv => whnf
    refine ⟨_, g1, ?_⟩
    conv => whnf
    refine ⟨by omega, by show (i : Int) < (n : Int); omega, ?_⟩
    conv => whnf
    refine ⟨i64 (by omega) (by omega), ?_⟩
    conv => whnf
    refine ⟨i + 1, by omega, Weak.gen [some 0] rfl ⟨⟨_, rfl, rfl, rfl, rfl, rfl, fun j k hj hk => regE ?_ (qp_clos j k)⟩, trivial⟩ ⟨⟨_, rfl, rfl, rfl⟩, .inl ⟨_, _, rfl, rfl, fun _ _ _ _ => rfl⟩, ⟨_, rfl, rfl⟩, ⟨_, rfl, rfl⟩, trivial⟩, by omega⟩
    exact updG (sz := 4) (g := qpF v i) (g' := qpF v (i + 1)) (l := nq (v i)) rfl hk (qp_next v i j)
  · have h := of_decide_eq_false h
    have g := hT i (by omega)
    conv => whnf
    refine .inr ⟨fun k j _ _ => qp_clos k j, ?_⟩
    conv => whnf
    refine ⟨_, g, ?_⟩
    conv => whnf
    exact ⟨rfl, Sub.refl _⟩
/-- A list that is normal up to a place, and the zero value behind it. -/
def rmid (v : Nat → Rat) (i k : Nat) : RawR := if k < i then ofR (v k) else ⟨⟨false, []⟩, ⟨false, []⟩⟩
theorem rmid_next (v : Nat → Rat) (i k : Nat) : (if k = i then nq (v i) else rr (rmid v i k)) = rr (rmid v (i + 1) k) := by
  unfold rmid
  by_cases e : k = i
  · rw [if_pos e, if_pos (by omega), e]
  · rw [if_neg e]
    by_cases e2 : k < i
    · rw [if_pos e2, if_pos (by omega)]
    · rw [if_neg e2, if_neg (by omega)]
theorem rmid_all {v : Nat → Rat} {n k : Nat} (h : k < n) : rmid v n k = ofR (v k) := if_pos h
theorem rmid_zero (v : Nat → Rat) : rmid v 0 = fun _ => ⟨⟨false, []⟩, ⟨false, []⟩⟩ := funext fun k => if_neg (Nat.not_lt_zero k)
abbrev gqr (n : Nat) (c : Nat → RawR) : Gx := ⟨46, 4, n, qlF c⟩
set_option maxHeartbeats 4000000 in
theorem qnorm_m {n : Nat} {q : Nat → RawR} {L : Nat} {v : Nat → Rat} (hv : (fun i => (q i).val) = v) (hn : n ≤ 1048576) (hq : ∀ i, i < n → (q i).Fit L) (hL : L + 3 ≤ LIM) : FnM Tryz.prog true 183 phB [.c (ql n q)] (.c (.sl 1 0 4 0 (Q.tq v n))) phB [qB n fun i => ofR (v i)] := by
  have h1 : ∀ i, i < n → FnOK Tryz.prog true 134 [.g (rr (q i))] (.g (nq (v i))) := fun i hi => by
    rw [← hv]
    exact qnormal_ok (hq i hi) hL
  clear hv hq
  have hT : ∀ i, i = n → FnM Tryz.prog true 160 (qB n (rmid v i)) [.c (.gs 0 0)] (.c (.sl 0 0 4 0 (Q.tq v n))) (qB n (rmid v i)) [] := fun i e => by
    have := qtrim_m (n := n) (c := rmid v i) hn
    rwa [tb_tq (p := fun k => decide ((rmid v i k).num.ds.length = 0)) (v := v) fun k hk => by
      show decide ((rmid v i k).num.ds.length = 0) = true ↔ _
      rw [e, rmid_all hk]; exact num_zero _] at this
  generalize Q.tq v n = N at *
  refine fnm_ok (E := E1m) E1m_ok Tryz.func183 rfl mixed (by kernel_rfl) (by kernel_rfl) rfl ?_
  conv => whnf
  refine ⟨by omega, Int.le_refl _, by omega, by show (64 : Int) * n ≤ 281474976710656; omega, ?_⟩
  conv => whnf
  refine loop_ints1 (fun i : Nat => gst1 [(3, .c (.gs 1 0)), (9, .c (ql n q)), (10, .c (.int .i64 n)), (11, .c (.int .i64 i))] [gqr n (rmid v i)]) (fun i => n - i) (fun i => i ≤ n) 0 rfl (Weak.gen1 [some 1] rfl rfl ⟨⟨_, rfl, rfl, rfl, by show Int.toNat n = n; omega, rfl, fun k j hk hj => ?_⟩, trivial⟩ ⟨⟨_, rfl, rfl, rfl⟩, .inl ⟨_, _, rfl, rfl, fun _ _ _ _ => rfl⟩, ⟨_, rfl, rfl⟩, ⟨_, rfl, rfl⟩, trivial⟩) (Nat.zero_le _) fun i hi => ?_
  · show regC 1 _ _ (qlF (rmid v 0) k j) _
    rw [rmid_zero]
    match j, hj with
    | 0, _ => exact ⟨_, rfl, rfl⟩
    | 1, _ => exact .inr (.inl ⟨rfl, rfl⟩)
    | 2, _ => exact ⟨_, rfl, rfl⟩
    | 3, _ => exact .inr (.inl ⟨rfl, rfl⟩)
  conv => whnf
  refine bcase (fun (h : decide ((i : Int) < n) = true) => ?_) fun (h : decide ((i : Int) < n) = false) => ?_
  · have h := of_decide_eq_true h
    have g1 := h1 i (by omega)
    conv => whnf
    refine ⟨by omega, by omega, ?_⟩
    conv => whnf
    refine ⟨_, g1, ?_⟩
    conv => whnf
    refine ⟨by omega, by show (i : Int) < (n : Int); omega, ?_⟩
    conv => whnf
    refine ⟨i64 (by omega) (by omega), ?_⟩
    conv => whnf
    refine ⟨i + 1, by omega, Weak.gen1 [some 1] rfl rfl ⟨⟨_, rfl, rfl, rfl, rfl, rfl, fun j k hj hk => regE ?_ (ql_clos (c := rmid v (i + 1)) j k)⟩, trivial⟩ ⟨⟨_, rfl, rfl, rfl⟩, .inl ⟨_, _, rfl, rfl, fun _ _ _ _ => rfl⟩, ⟨_, rfl, rfl⟩, ⟨_, rfl, rfl⟩, trivial⟩, by omega⟩
    exact updG (sz := 4) (g := fun k => rr (rmid v i k)) (g' := fun k => rr (rmid v (i + 1) k)) (l := nq (v i)) rfl hk (rmid_next v i j)
  · have h := of_decide_eq_false h
    have g := hT i (by omega)
    conv => whnf
    refine .inl ⟨[], false, ?_⟩
    conv => whnf
    refine ⟨1, _, [.c (.gs 0 0)], _, _, _, g, rfl, .inl rfl, qB_plain _ _, qB_plain _ _, fun F hF => absurd hF List.not_mem_nil, rfl, rfl, ?_⟩
    conv => whnf
    refine Weak.gen1 (tl := [(0, .c (.sl 1 0 4 0 N))]) (xs := [gqr n fun i => ofR (v i)]) [some 1] rfl rfl ?_ ?_
    · exact ⟨⟨_, rfl, rfl, rfl, rfl, rfl, fun k j hk hj => regE (qlF_eq (c := rmid v i) (e := fun i => ofR (v i)) (i := k) (j := j) (k := k) (rmid_all (Nat.lt_of_lt_of_le hk (show n ≤ i by omega)))) (ql_clos (c := fun i => ofR (v i)) k j)⟩, trivial⟩
    · exact ⟨⟨_, _, rfl, rfl, rfl, rfl⟩, trivial⟩
end Rf
end Go.Proofs.YtmbejakmeijcbaaGreat
/- Sums and products of lists of fractions in the program. -/
namespace Go.Proofs.YtmbejakmeijcbaaGreat
open Go.RowKit
namespace Rf
set_option maxHeartbeats 4000000 in
theorem qzero_ok {q : RawR} {L : Nat} {x : Rat} (hx : q.val = x) (h : q.Fit L) (hL : L + 3 ≤ LIM) : FnOK Tryz.prog true 191 [.g (rr q)] (.c (.bool (decide (x = 0)))) := by
  have h1 := qsign_ok h hL
  rw [hx] at h1
  have e : x.num.sign = 0 ↔ x = 0 := ⟨fun a => Rat.num_eq_zero.1 (Int.sign_eq_zero_iff_zero.1 a), fun a => by rw [a]; rfl⟩
  refine fn_ok (E := E1) E1_ok Tryz.func191 rfl mixed (by kernel_rfl) (by kernel_rfl) ?_
  conv => whnf
  refine ⟨_, h1, ?_⟩
  conv => whnf
  exact ⟨rfl, sub_bool (decide_eq_decide.2 e)⟩
theorem qzero_nq (x : Rat) {L : Nat} (h : qlen x ≤ L) (hL : L + 3 ≤ LIM) : FnOK Tryz.prog true 191 [.g (nq x)] (.c (.bool (decide (x = 0)))) :=
  qzero_ok (q := ofR x) (ofR_val x) (ofR_fit h) hL
abbrev zraw : RawR := ⟨⟨false, []⟩, ⟨false, []⟩⟩
abbrev zcells : List Cell := [.bool false, .nil, .bool false, .nil]
theorem zraw_fit (L : Nat) : zraw.Fit L := ⟨fun _ hd => absurd hd List.not_mem_nil, fun _ hd => absurd hd List.not_mem_nil, Nat.zero_le _, Nat.zero_le _⟩
theorem zraw_val : zraw.val = 0 := by
  show ratio _ (sgn false (Dg.val [])) = 0
  exact ratio_zero_right _
end Rf
end Go.Proofs.YtmbejakmeijcbaaGreat
/- Products of lists of fractions in the program. -/
namespace Go.Proofs.YtmbejakmeijcbaaGreat
open Go.RowKit
namespace Rf
theorem qlen_mul {x y : Rat} {L L' : Nat} (hx : qlen x ≤ L) (hy : qlen y ≤ L') (h1 : 1 ≤ L + L') : qlen (x * y) ≤ L + L' := by
  have e : x * y = ratio (x.num * y.num) ((x.den : Int) * (y.den : Int)) := by
    rw [← ratio_mul, ratio_num_den, ratio_num_den]
  rw [e]
  unfold qlen at hx hy
  have a1 := zlen_mul x.num y.num
  have a2 := zlen_mul (x.den : Int) (y.den : Int)
  exact qlen_ratio (by omega) (by omega) h1
theorem tq_zero {v : Nat → Rat} (h : ∀ k, v k = 0) : ∀ n, Q.tq v n = 0
  | 0 => rfl
  | n + 1 => by unfold Q.tq; rw [if_pos (h n), tq_zero h n]
theorem qof_zero : FnOK Tryz.prog true 44 [.c (.int .i64 0)] (.g (nq 0)) := by
  have h := qof_ok (n := 0) (by decide) (by decide)
  rwa [show ((0 : Int) : Rat) = 0 from rfl] at h
end Rf
end Go.Proofs.YtmbejakmeijcbaaGreat
/- A walk in pieces: behind each piece the state is told anew. -/
namespace Go.Proofs.YtmbejakmeijcbaaGreat
open Go.RowKit
/-- What the code does from every memory that reads as the state. -/
structure Swp (E : Env) (N : Nat) (c : Code) (σ : St) (R : Exit → St → Prop) : Prop where
  run : ∀ (C : Ctx) (a : Act) (w : World), C.r = E.r → C.ρ0.length ≤ E.m0 → C.N = N → Rel C σ a w → c.wp E.P (QR C R) a w
theorem swp_of {E : Env} (hE : EnvOK E) (hm : E.P.follows .mixedOrders = true) {N : Nat} {c : Code} {σ : St} {R : Exit → St → Prop} (hc : codeB N c = true) (h : awp E c σ R) : Swp E N c σ R :=
  ⟨fun C a w h1 h2 h3 hr => awp_sound (C := C) hE h1 h2 hm c (by rw [h3]; exact hc) h hr⟩
/-- A piece, and behind it the rest from a state that says less. -/
theorem swp_seq {E : Env} (hE : EnvOK E) (hm : E.P.follows .mixedOrders = true) {N : Nat} {x y : Code} {σ : St} {R : Exit → St → Prop} (hc : codeB N x = true) (h : awp E x σ (seqR (fun σ' => ∃ σ2, Weak E.m0 σ' σ2 ∧ Swp E N y σ2 R) R)) : Swp E N (.seq x y) σ R := by
  refine ⟨fun C a w h1 h2 h3 hr => ?_⟩
  refine wp_seq (wp_mono (awp_sound (C := C) hE h1 h2 hm x (by rw [h3]; exact hc) h hr) ?_)
  rintro e a' w' ⟨σ', hrel, hk⟩
  cases e with
  | normal =>
    obtain ⟨σ2, hw, hs⟩ := hk
    exact hs.run C a' w' h1 h2 h3 (hw C a' w' h2 hrel)
  | _ => exact ⟨σ', hrel, hk⟩
/-- The same with nothing forgotten. -/
theorem swp_seq0 {E : Env} (hE : EnvOK E) (hm : E.P.follows .mixedOrders = true) {N : Nat} {x y : Code} {σ : St} {R : Exit → St → Prop} (hc : codeB N x = true) (h : awp E x σ (seqR (fun σ' => Swp E N y σ' R) R)) : Swp E N (.seq x y) σ R := by
  refine ⟨fun C a w h1 h2 h3 hr => ?_⟩
  refine wp_seq (wp_mono (awp_sound (C := C) hE h1 h2 hm x (by rw [h3]; exact hc) h hr) ?_)
  rintro e a' w' ⟨σ', hrel, hk⟩
  cases e with
  | normal => exact hk.run C a' w' h1 h2 h3 hrel
  | _ => exact ⟨σ', hrel, hk⟩
/-- Both pieces in pieces. -/
theorem swp_seqS {E : Env} {N : Nat} {x y : Code} {σ : St} {R : Exit → St → Prop} (h : Swp E N x σ (seqR (fun σ' => Swp E N y σ' R) R)) : Swp E N (.seq x y) σ R := by
  refine ⟨fun C a w h1 h2 h3 hr => ?_⟩
  refine wp_seq (wp_mono (h.run C a w h1 h2 h3 hr) ?_)
  rintro e a' w' ⟨σ', hrel, hk⟩
  cases e with
  | normal => exact hk.run C a' w' h1 h2 h3 hrel
  | _ => exact ⟨σ', hrel, hk⟩
theorem swp_block {E : Env} {N id : Nat} {c : Code} {σ : St} {R : Exit → St → Prop} (h : Swp E N c σ (blockR id R)) : Swp E N (.block id c) σ R := by
  refine ⟨fun C a w h1 h2 h3 hr => ?_⟩
  refine wp_block (wp_mono (h.run C a w h1 h2 h3 hr) ?_)
  rintro e a' w' ⟨σ', hrel, hk⟩
  cases e with
  | exit i =>
    simp only [blockR] at hk
    simp only [Exit.inBlock]
    split
    · rename_i e; rw [if_pos e] at hk; exact ⟨σ', hrel, hk⟩
    · rename_i e; rw [if_neg e] at hk; exact ⟨σ', hrel, hk⟩
  | _ => exact ⟨σ', hrel, hk⟩
/-- A loop whose rounds are walked in pieces. -/
theorem swp_loop {E : Env} {N : Nat} {c : Code} {σ : St} {R : Exit → St → Prop} {α : Type} (S : α → St) (m : α → Nat) (I : α → Prop) (x0 : α) (h0 : Weak E.m0 σ (S x0)) (hI : I x0) (hr : ∀ x, I x → Swp E N c (S x) (seqR (fun σ2 => ∃ x', m x' < m x ∧ Weak E.m0 σ2 (S x') ∧ I x') R)) : Swp E N (.loop c) σ R := by
  refine ⟨fun C a w h1 h2 h3 hrel => ?_⟩
  refine wp_loop_ghost (fun n a w => ∃ x, n = m x ∧ I x ∧ Rel C (S x) a w) (m x0) ⟨x0, rfl, hI, h0 _ _ _ h2 hrel⟩ ?_
  rintro n a w ⟨x, rfl, hx, hrel⟩
  refine wp_mono ((hr x hx).run C a w h1 h2 h3 hrel) ?_
  rintro e a' w' ⟨σ2, hrel2, hk⟩
  cases e with
  | normal =>
    obtain ⟨x', hlt, hw, hI'⟩ := hk
    exact ⟨m x', hlt, x', rfl, hI', hw _ _ _ h2 hrel2⟩
  | _ => exact ⟨σ2, hrel2, hk⟩
/-- **The contract of a function, off a walk in pieces.** -/
theorem fn_okS {E : Env} (hE : EnvOK E) {f : FuncId} {fn : Func} {c : Code} {args : List V} {X : V} (hf : E.P.funcs[f]? = some fn) (hb : fn.body = some c) (hbd : hasBody E.P f = true)
    (h : Swp E fn.ntmps c ⟨frame0 args, []⟩ (retOK E fn.results.toList X)) : FnOK E.P E.r f args X := by
  refine ⟨hbd, ?_⟩
  intro D w vs hD hU hargs
  refine calls_of_wp hf hb ?_
  let C : Ctx := ⟨D, ⟨w, fun _ => False⟩, E.r, fn.ntmps, []⟩
  have hlen := hargs.length
  have hrel : Rel C ⟨frame0 args, []⟩ { tmps := vs.toArray ++ Array.replicate (fn.ntmps - vs.toArray.size) undef, defers := [] } w := by
    have hDof : ∀ b, Dof D [] [] b → D b := by
      rintro b (h | ⟨k, l, B, h1, _⟩)
      · exact h
      · simp at h1
    refine ⟨[], ⟨⟨rfl, rfl, rfl, Nat.le_refl _, fun _ _ _ => rfl⟩, fun b hb => ⟨hD b hb, id⟩, rfl, fun k l B h1 _ => by simp at h1, fun i j li lj Bi Bj b h1 => by simp at h1, fun hr b o d hb => hU hr b o d (hDof b hb)⟩, ⟨by simp [C]; omega, LocsLe.refl _⟩, rfl, fun t => ?_⟩
    have h1 := hargs.get t
    have h2 : VRel (Dof D [] []) w [] (args.getD t (.c .any)) (vs.getD t undef) := h1.step (Ext.refl _ _) (fun b _ hb => hDof b hb) (LocsLe.refl _)
    show VRel (Dof D [] []) w [] (args.getD t (.c .any)) _
    rcases Nat.lt_or_ge t vs.length with hlt | hge
    · have : (vs.toArray ++ Array.replicate (fn.ntmps - vs.toArray.size) undef).getD t undef = vs.getD t undef := by
        rw [Array.getD_eq_getD_getElem?, Array.getElem?_append_left (by simpa using hlt)]
        simp [List.getD]
      rw [this]; exact h2
    · rw [show args.getD t (V.c .any) = .c .any by rw [List.getD, List.getElem?_eq_none (by omega)]; rfl]
      trivial
  refine wp_mono (h.run C _ _ rfl (Nat.zero_le _) rfl hrel) ?_
  rintro e a w' ⟨σ, hr, hk⟩
  have fin : retOK E fn.results.toList X .ret σ → a.defers = [] ∧ ∃ v, (results fn a.tmps).run E.P w' = .ok v w' ∧ ∃ u, Ending.returned v = .returned u ∧ VRel D w' [] X u ∧ Below w.heap.size w w' := by
    intro hk
    obtain ⟨ρ, hs, hN, hdf, hfr⟩ := hr
    refine ⟨hdf, ?_⟩
    simp only [retOK] at hk
    split at hk
    · rename_i v hv
      obtain ⟨x, hx, hxr⟩ := ret_run hE hs hfr hv
      -- the result in a slot of its own
      let tm' : Nat → V := fun t => if t = a.tmps.size then v else σ.tm t
      let a' : Act := { a with tmps := a.tmps.push x }
      have hrel' : Rel C ⟨tm', σ.bl⟩ a' w' := by
        refine ⟨ρ, hs, ⟨by show _ ≤ (a.tmps.push x).size; have := hN.1; simp; omega, hN.2⟩, hdf, fun t => ?_⟩
        show VRel _ _ _ (if t = a.tmps.size then v else σ.tm t) ((a.tmps.push x).getD t undef)
        by_cases e : t = a.tmps.size
        · rw [if_pos e, e]; simpa [Array.getD] using hxr
        · rw [if_neg e]
          have : (a.tmps.push x).getD t undef = a.tmps.getD t undef := by
            rw [Array.getD_eq_getD_getElem?, Array.getD_eq_getD_getElem?, Array.getElem?_push]
            rw [if_neg e]
          rw [this]; exact hfr t
      have hk' := frzA_tm (tm := tm') (K' := fun σ' => closT (closeT σ'.bl v) = true ∧ Sub (closeT σ'.bl v) X) (partsV v) (fun bl h => h) hk
      obtain ⟨σ', ⟨h1, h2⟩, ⟨ρ', hs', _, _, hfr'⟩, htm⟩ := Rel.frzA hk' hrel'
      have h3 := hfr' a.tmps.size
      rw [htm] at h3
      have h4 : VRel (Dof D ρ' σ'.bl) w' ρ' v x := by
        have e1 : tm' a.tmps.size = v := by show (if a.tmps.size = a.tmps.size then v else _) = v; rw [if_pos rfl]
        have e2 : a'.tmps.getD a.tmps.size undef = x := by show (a.tmps.push x).getD a.tmps.size undef = x; simp [Array.getD]
        rw [← e1, ← e2]
        exact h3
      have h5 := closT_rel (ρ' := []) (closeT_rel hs' h4) h1
      exact ⟨x, hx, x, rfl, h2 D w' x (h5.step (Ext.refl _ _) (fun b _ hb => .inl hb) (LocsLe.refl _)), ⟨hs'.below.os, hs'.below.tape, hs'.below.output, hs'.below.size, fun k hk => hs'.below.block k hk id⟩⟩
    · exact hk.elim
  cases e with
  | normal => exact fin hk
  | ret => exact fin hk
  | exit i => exact hk.elim
  | goto l => exact hk.elim
  | panic ch => exact hk.elim
  | outgrown => exact hk.elim
/-- The end of a function that is handed blocks of its caller's. -/
def retS (E : Env) (rs : List ResultVar) (X : V) (m : Nat) (post : List Blk) (e : Exit) (σ : St) : Prop :=
  match e with
  | .normal | .ret => match retV E σ rs with
    | some v => Weak m ⟨asg [(0, v)], σ.bl⟩ ⟨asg [(0, X)], post⟩
    | none => False
  | _ => False
/-- **The contract of a function that is handed blocks of its caller's, off a walk in pieces.** -/
theorem fns_okS {E : Env} (hE : EnvOK E) {f : FuncId} {fn : Func} {c : Code} {args : List V} {X : V} {bl post : List Blk} (hf : E.P.funcs[f]? = some fn) (hb : fn.body = some c) (hbd : hasBody E.P f = true) (hm0 : E.m0 = bl.length)
    (h : Swp E fn.ntmps c ⟨frame0 args, bl⟩ (retS E fn.results.toList X bl.length post)) : FnS E.P E.r f bl args X post := by
  refine ⟨hbd, ?_⟩
  intro D w0 ρ w vs hs0 hargs
  refine calls_of_wp hf hb ?_
  let C : Ctx := ⟨D, w0, E.r, fn.ntmps, ρ⟩
  have hlen := hargs.length
  have hrl : ρ.length = bl.length := hs0.len
  have hrel : Rel C ⟨frame0 args, bl⟩ { tmps := vs.toArray ++ Array.replicate (fn.ntmps - vs.toArray.size) undef, defers := [] } w := by
    refine ⟨ρ, hs0, ⟨by simp [C]; omega, LocsLe.refl _⟩, rfl, fun t => ?_⟩
    have h2 := hargs.get t
    show VRel (Dof D ρ bl) w ρ (args.getD t (.c .any)) _
    rcases Nat.lt_or_ge t vs.length with hlt | hge
    · have : (vs.toArray ++ Array.replicate (fn.ntmps - vs.toArray.size) undef).getD t undef = vs.getD t undef := by
        rw [Array.getD_eq_getD_getElem?, Array.getElem?_append_left (by simpa using hlt)]
        simp [List.getD]
      rw [this]; exact h2
    · rw [show args.getD t (V.c .any) = .c .any by rw [List.getD, List.getElem?_eq_none (by omega)]; rfl]
      trivial
  refine wp_mono (h.run C _ _ rfl (by show ρ.length ≤ E.m0; omega) rfl hrel) ?_
  rintro e a w' ⟨σ, hr, hk⟩
  have fin : retS E fn.results.toList X bl.length post .ret σ → a.defers = [] ∧ ∃ v, (results fn a.tmps).run E.P w' = .ok v w' ∧ ∃ u ρ', Ending.returned v = .returned u ∧ Sat D w0 E.r ρ' post w' ∧ LocsLe ρ ρ' ∧ VRel (Dof D ρ' post) w' ρ' X u := by
    intro hk
    obtain ⟨ρ1, hs, hN, hdf, hfr⟩ := hr
    refine ⟨hdf, ?_⟩
    simp only [retS] at hk
    split at hk
    · rename_i v hv
      obtain ⟨x, hx, hxr⟩ := ret_run hE hs hfr hv
      have hrel' : Rel ⟨D, w0, E.r, 0, ρ⟩ ⟨asg [(0, v)], σ.bl⟩ ⟨#[x], []⟩ w' := by
        refine ⟨ρ1, hs, ⟨Nat.zero_le _, hN.2⟩, rfl, fun t => ?_⟩
        show VRel _ _ _ (if t = 0 then v else .c .any) _
        split
        · rename_i e; subst e; exact hxr
        · trivial
      obtain ⟨ρ2, hs2, hN2, _, hf2⟩ := hk ⟨D, w0, E.r, 0, ρ⟩ _ _ (by show ρ.length ≤ bl.length; omega) hrel'
      exact ⟨x, hx, x, ρ2, rfl, hs2, hN2.2, hf2 0⟩
    · exact hk.elim
  cases e with
  | normal => exact fin hk
  | ret => exact fin hk
  | exit i => exact hk.elim
  | goto l => exact hk.elim
  | panic ch => exact hk.elim
  | outgrown => exact hk.elim
end Go.Proofs.YtmbejakmeijcbaaGreat
/- Division of lists of fractions by a monic one, in the program. -/
namespace Go.Proofs.YtmbejakmeijcbaaGreat
open Go.RowKit
namespace Rf
/-- A list that is filled from its end. -/
def qm (u : Nat → Rat) (k x : Nat) : RawR := if k ≤ x then ofR (u x) else zraw
theorem qm_self (u : Nat → Rat) (k : Nat) : qm u k k = ofR (u k) := if_pos (Nat.le_refl k)
theorem qm_next (u : Nat → Rat) (i x : Nat) : (if x = i then nq (u i) else rr (qm u (i + 1) x)) = rr (qm u i x) := by
  unfold qm
  by_cases e : x = i
  · rw [if_pos e, if_pos (by omega), e]
  · rw [if_neg e]
    by_cases e2 : i + 1 ≤ x
    · rw [if_pos e2, if_pos (by omega)]
    · rw [if_neg e2, if_neg (by omega)]
theorem qm_zero (u : Nat → Rat) : qm u 0 = fun x => ofR (u x) := funext fun x => if_pos (Nat.zero_le x)
theorem qm_top {u : Nat → Rat} {N x : Nat} (h : x < N) : qm u N x = zraw := if_neg (by omega)
theorem div_one_ok (x : Rat) {L : Nat} (h : qlen x ≤ L) (hL : L + 8 ≤ LIM) : FnOK Tryz.prog true 204 [.g (nq x), .g (nq 1)] (.t2 (.g (nq x)) (.c (.int .i64 0))) := by
  have := qquo_ok (q := ofR x) (p := ofR 1) (ofR_fit h) (ofR_fit (L := 1) (by decide)) (by omega) (by rw [ofR_val]; decide)
  rw [ofR_val, ofR_val, show x / 1 = x by grind] at this
  exact this
set_option maxHeartbeats 16000000 in
theorem qpdiv_long {n d : Nat} {v f : Nat → Rat} {K : Nat} (hf : Q.Mon d f) (ht : Q.tq v n = n) (hnd : d < n) (hn : n ≤ 4096) (hs : ∀ t k, t ≤ n - d → qlen (Q.dvs d f (n - d) v t k) ≤ K) (hg : ∀ j, qlen (f j) ≤ K) (h1 : 1 ≤ K) (hL : K + K + K + 16 ≤ LIM) : FnOK Tryz.prog true 184 [.c (nql n v), .c (nql (d + 1) f)] (.t2 (.c (nql (Q.tq (Q.dvq d f (n - d) v) (n - d)) (Q.dvq d f (n - d) v))) (.c (nql (Q.tq (Q.dvs d f (n - d) v (n - d)) n) (Q.dvs d f (n - d) v (n - d))))) := by
  have hv0 : ∀ i, i < n → (ofR (v i)).Fit K := fun i _ => ofR_fit (hs 0 i (Nat.zero_le _))
  have hN0 := qnorm_m (q := fun i => ofR (v i)) (v := v) (n := n) (funext fun i => ofR_val _) (by omega) hv0 (by omega)
  rw [ht] at hN0
  obtain ⟨N, hN⟩ : ∃ N, N = n - d := ⟨_, rfl⟩
  rw [← hN] at hs ⊢
  have ft := hf.top
  have q1 : ∀ t k, t ≤ N → FnOK Tryz.prog true 204 [.g (nq (Q.dvs d f N v t k)), .g (nq (f d))] (.t2 (.g (nq (Q.dvs d f N v t k))) (.c (.int .i64 0))) := fun t k h => by
    rw [ft]
    exact div_one_ok _ (hs t k h) (by omega)
  have z1 : ∀ i, i < N → FnOK Tryz.prog true 191 [.g (nq (Q.dvq d f N v i))] (.c (.bool (decide (Q.dvq d f N v i = 0)))) := fun i hi => qzero_nq _ (hs (N - 1 - i) (i + d) (by omega)) (by omega)
  have p1 : ∀ i j, i < N → FnOK Tryz.prog true 192 [.g (rr (qm (Q.dvq d f N v) i i)), .g (nq (f j))] (.g (nq (Q.dvq d f N v i * f j))) := fun i j hi => by
    rw [qm_self]
    have := qmul_ok (q := ofR (Q.dvq d f N v i)) (p := ofR (f j)) (ofR_fit (hs (N - 1 - i) (i + d) (by omega))) (ofR_fit (hg j)) (by omega)
    rwa [ofR_val, ofR_val] at this
  have s1 : ∀ i j, i < N → FnOK Tryz.prog true 110 [.g (nq (Q.dpt (Q.dvq d f N v i) f (Q.dvs d f N v (N - (i + 1))) i j (i + j))), .g (nq (Q.dvq d f N v i * f j))] (.g (nq (Q.dvs d f N v (N - (i + 1)) (i + j) - Q.dvq d f N v i * f j))) := fun i j hi => by
    rw [Q.dpt_old]
    have k1 : qlen (Q.dvq d f N v i) ≤ K := hs (N - 1 - i) (i + d) (by omega)
    have := qsub_ok (q := ofR (Q.dvs d f N v (N - (i + 1)) (i + j))) (p := ofR (Q.dvq d f N v i * f j)) (ofR_fit (hs _ _ (by omega))) (ofR_fit (qlen_mul k1 (hg j) (by omega))) (by omega) (by omega)
    rwa [ofR_val, ofR_val] at this
  have w1 : ∀ i, i < N → ∀ k, Q.dpt (Q.dvq d f N v i) f (Q.dvs d f N v (N - (i + 1))) i (d + 1) k = Q.dvs d f N v (N - i) k := fun i hi k => by
    have := Q.dpt_all hf.fin (N := N) (p := v) (t := N - (i + 1)) k
    rw [show N - 1 - (N - (i + 1)) = i by omega, show N - (i + 1) + 1 = N - i by omega] at this
    rw [← this]
    unfold Q.dvq
    rw [show N - 1 - i = N - (i + 1) by omega]
  have w2 : ∀ i, i < N → Q.dvq d f N v i = 0 → ∀ k, Q.dvs d f N v (N - (i + 1)) k = Q.dvs d f N v (N - i) k := fun i hi e k => by
    rw [← w1 i hi k, Q.dpt_none e]
  have w3 := fun i j k => Q.dpt_next (Q.dvq d f N v i) f (Q.dvs d f N v (N - (i + 1))) i j k
  have w4 := fun i k => Q.dpt_zero (Q.dvq d f N v i) f (Q.dvs d f N v (N - (i + 1))) i k
  have e1 : ∀ i, i < N → Q.dvs d f N v (N - (i + 1)) (i + d) = Q.dvq d f N v i := fun i hi => by
    unfold Q.dvq
    rw [show N - 1 - i = N - (i + 1) by omega]
  have hT1 := qtrim_nql (n := N) (v := Q.dvq d f N v) (by omega)
  rw [show nql N (Q.dvq d f N v) = ql N (qm (Q.dvq d f N v) 0) by rw [qm_zero]] at hT1
  have hT2 := qtrim_nql (n := n) (v := Q.dvs d f N v N) (by omega)
  have hT2 : FnOK Tryz.prog true 160 [.c (.row 4 n fun x j => qlF (fun x => ofR (Q.dvs d f N v (N - 0) x)) (0 + x) j)] (.c (nql (Q.tq (Q.dvs d f N v N) n) (Q.dvs d f N v N))) := arg_ok hT2 fun D w vs h => by
    match vs, h with
    | [v1], ⟨h1, _⟩ => exact ⟨subRowG rfl (fun x j hx hj => by rw [Nat.zero_add]; rfl) D w v1 h1, trivial⟩
  clear hs hg ht hv0
  refine fn_okS (E := E1) E1_ok Tryz.func184 rfl (by kernel_rfl) ?_
  refine swp_seq0 E1_ok mixed (by kernel_rfl) ?_
  conv => whnf
  refine swp_seq0 E1_ok mixed (by kernel_rfl) ?_
  conv => whnf
  refine .inl ⟨[], true, ?_⟩
  conv => whnf
  refine ⟨0, phB, [.c (nql n v)], _, _, _, hN0, rfl, .inr (Nat.le_refl 2), fun h => absurd h (by decide), fun h => absurd h (by decide), fun F' hF' => ?_, rfl, rfl, ?_⟩
  · simp at hF'; subst hF'; exact qB_plain _ _
  conv => whnf
  refine swp_seq0 E1_ok mixed (by kernel_rfl) ?_
  conv => whnf
  refine bneg (show decide ((n : Int) < ((d + 1 : Nat) : Int)) = false from decide_eq_false (by omega)) ?_
  conv => whnf
  refine swp_seq0 E1_ok mixed (by kernel_rfl) ?_
  conv => whnf
  refine ⟨i64 (by omega) (by omega), ?_⟩
  conv => whnf
  refine ⟨i64 (by omega) (by omega), ?_⟩
  conv => whnf
  refine ⟨by omega, Int.le_refl _, by omega, by show (64 : Int) * ((n : Int) - ((d + 1 : Nat) : Int) + 1) ≤ 281474976710656; omega, ?_⟩
  have eN : ((n : Int) - ((d + 1 : Nat) : Int) + 1).toNat = N := by omega
  conv => whnf
  refine swp_seqS ?_
  refine swp_seq0 E1_ok mixed (by kernel_rfl) ?_
  conv => whnf
  refine ⟨i64 (by show _ ≤ (((n : Int) - ((d + 1 : Nat) : Int) + 1).toNat : Int) - 1; omega) (by show (((n : Int) - ((d + 1 : Nat) : Int) + 1).toNat : Int) - 1 < _; omega), ?_⟩
  conv => whnf
  refine swp_block ?_
  refine swp_loop (fun k : Nat => gst [(1, .c (nql (d + 1) f)), (4, .c (.gs 1 0)), (5, .c (.sl 0 0 4 0 n)), (6, .c (.int .i64 ((k : Int) - 1)))] [gqr n fun x => ofR (Q.dvs d f N v (N - k) x), gqr N (qm (Q.dvq d f N v) k)]) (fun k => k) (fun k => k ≤ N) N ?_ (Nat.le_refl _) fun k hk => ?_
  · refine Weak.gen [some 1, some 2] rfl ⟨⟨_, rfl, rfl, rfl, rfl, rfl, fun x j hx hj => regE (qlF_eq (c := fun x => ofR (v x)) (e := fun x => ofR (Q.dvs d f N v (N - N) x)) (i := x) (k := x) (congrArg ofR (by rw [Nat.sub_self]; rfl))) (ql_clos (c := fun x => ofR (Q.dvs d f N v (N - N) x)) x j)⟩, ⟨_, rfl, rfl, rfl, eN, rfl, fun x j hx hj => ?_⟩, trivial⟩ ⟨.inl ⟨_, _, rfl, rfl, fun _ _ _ _ => rfl⟩, ⟨_, rfl, rfl, rfl⟩, ⟨_, _, rfl, rfl, rfl, rfl⟩, ⟨_, rfl, by show (((n : Int) - ((d + 1 : Nat) : Int) + 1).toNat : Int) - 1 = (N : Int) - 1; rw [eN]⟩, trivial⟩
    show regC 0 _ _ (qlF (qm (Q.dvq d f N v) N) x j) _
    have hx : x < N := hx
    unfold qlF
    rw [qm_top hx]
    match j, hj with
    | 0, _ => exact ⟨_, rfl, rfl⟩
    | 1, _ => exact .inr (.inl ⟨rfl, rfl⟩)
    | 2, _ => exact ⟨_, rfl, rfl⟩
    | 3, _ => exact .inr (.inl ⟨rfl, rfl⟩)
  refine swp_seq0 E1_ok mixed (by kernel_rfl) ?_
  conv => whnf
  refine bcase (fun (h : decide ((0 : Int) ≤ (k : Int) - 1) = true) => ?_) fun (h : decide ((0 : Int) ≤ (k : Int) - 1) = false) => ?_
  · have h := of_decide_eq_true h
    obtain ⟨i, hi0⟩ : ∃ i, i = ((k : Int) - 1).toNat := ⟨_, rfl⟩
    have hk1 : k = i + 1 := by omega
    subst hk1
    have hiN : i < N := by omega
    have ei : (((i + 1 : Nat) : Int) - 1).toNat = i := by omega
    have g1 : FnOK Tryz.prog true 204 [.g (nq (Q.dvs d f N v (N - (i + 1)) (0 + (((i + 1 : Nat) : Int) - 1 + ((d + 1 : Nat) : Int) - 1).toNat))), .g (nq (f (((d + 1 : Nat) : Int) - 1).toNat))] (.t2 (.g (nq (Q.dvq d f N v i))) (.c (.int .i64 0))) := by
      have := q1 (N - (i + 1)) (i + d) (by omega)
      rw [e1 i hiN] at this
      rw [show 0 + (((i + 1 : Nat) : Int) - 1 + ((d + 1 : Nat) : Int) - 1).toNat = i + d by omega, show (((d + 1 : Nat) : Int) - 1).toNat = d by omega, e1 i hiN]
      exact this
    have g2 : FnOK Tryz.prog true 191 [.g (rr (qm (Q.dvq d f N v) i (((i + 1 : Nat) : Int) - 1).toNat))] (.c (.bool (decide (Q.dvq d f N v i = 0)))) := by
      rw [ei, qm_self]
      exact z1 i hiN
    conv => whnf
    refine swp_seqS (swp_block ?_)
    refine swp_seq E1_ok mixed (by kernel_rfl) ?_
    conv => whnf
    refine ⟨i64 (by omega) (by omega), ?_⟩
    conv => whnf
    refine ⟨i64 (by omega) (by omega), ?_⟩
    conv => whnf
    refine ⟨by omega, ?_⟩
    conv => whnf
    refine ⟨by show ((i + 1 : Nat) : Int) - 1 + ((d + 1 : Nat) : Int) - 1 < (n : Int); omega, ?_⟩
    conv => whnf
    refine ⟨i64 (by omega) (by omega), ?_⟩
    conv => whnf
    refine ⟨by omega, by omega, ?_⟩
    conv => whnf
    refine ⟨_, g1, ?_⟩
    conv => whnf
    refine ⟨by omega, by show ((i + 1 : Nat) : Int) - 1 < (N : Int); omega, ?_⟩
    conv => whnf
    refine ⟨gst [(1, .c (nql (d + 1) f)), (4, .c (.gs 1 0)), (5, .c (.sl 0 0 4 0 n)), (6, .c (.int .i64 (((i + 1 : Nat) : Int) - 1)))] [gqr n fun x => ofR (Q.dvs d f N v (N - (i + 1)) x), gqr N (qm (Q.dvq d f N v) i)], Weak.gen [some 0, some 1] rfl ⟨⟨_, rfl, rfl, rfl, rfl, rfl, fun x j hx hj => regE rfl (ql_clos (c := fun x => ofR (Q.dvs d f N v (N - (i + 1)) x)) x j)⟩, ⟨_, rfl, rfl, rfl, rfl, rfl, fun x j hx hj => regE ?_ (ql_clos (c := qm (Q.dvq d f N v) i) x j)⟩, trivial⟩ ⟨.inl ⟨_, _, rfl, rfl, fun _ _ _ _ => rfl⟩, ⟨_, rfl, rfl, rfl⟩, ⟨_, _, rfl, rfl, rfl, rfl⟩, ⟨_, rfl, rfl⟩, trivial⟩, ?_⟩
    · exact updG (sz := 4) (g := fun x => rr (qm (Q.dvq d f N v) (i + 1) x)) (g' := fun x => rr (qm (Q.dvq d f N v) i x)) (l := nq (Q.dvq d f N v i)) rfl hj (by rw [ei]; exact qm_next _ i x)
    refine swp_seq0 E1_ok mixed (by kernel_rfl) ?_
    conv => whnf
    refine ⟨by omega, by show ((i + 1 : Nat) : Int) - 1 < (N : Int); omega, ?_⟩
    conv => whnf
    refine ⟨_, g2, ?_⟩
    conv => whnf
    refine bcase (fun (h3 : decide (Q.dvq d f N v i = 0) = true) => ?_) fun (h3 : decide (Q.dvq d f N v i = 0) = false) => ?_
    · have y3 := w2 i hiN (of_decide_eq_true h3)
      conv => whnf
      refine swp_of E1_ok mixed (by kernel_rfl) ?_
      conv => whnf
      refine ⟨i64 (by omega) (by omega), ?_⟩
      conv => whnf
      exact ⟨i, by omega, Weak.gen [some 0, some 1] rfl ⟨⟨_, rfl, rfl, rfl, rfl, rfl, fun x j hx hj => regE (qlF_eq (c := fun x => ofR (Q.dvs d f N v (N - (i + 1)) x)) (e := fun x => ofR (Q.dvs d f N v (N - i) x)) (i := x) (k := x) (congrArg ofR (y3 x))) (ql_clos (c := fun x => ofR (Q.dvs d f N v (N - i) x)) x j)⟩, ⟨_, rfl, rfl, rfl, rfl, rfl, fun x j hx hj => regE rfl (ql_clos (c := qm (Q.dvq d f N v) i) x j)⟩, trivial⟩ ⟨.inl ⟨_, _, rfl, rfl, fun _ _ _ _ => rfl⟩, ⟨_, rfl, rfl, rfl⟩, ⟨_, _, rfl, rfl, rfl, rfl⟩, ⟨_, rfl, by omega⟩, trivial⟩, by omega⟩
    · conv => whnf
      refine swp_of E1_ok mixed (by kernel_rfl) ?_
      conv => whnf
      refine loop_ints (fun j : Nat => gst [(1, .c (nql (d + 1) f)), (4, .c (.gs 1 0)), (5, .c (.sl 0 0 4 0 n)), (6, .c (.int .i64 (((i + 1 : Nat) : Int) - 1))), (57, .c (nql (d + 1) f)), (58, .c (.int .i64 ((d + 1 : Nat) : Int))), (59, .c (.int .i64 j))] [gqr n fun x => ofR (Q.dpt (Q.dvq d f N v i) f (Q.dvs d f N v (N - (i + 1))) i j x), gqr N (qm (Q.dvq d f N v) i)]) (fun j => d + 1 - j) (fun j => j ≤ d + 1) 0 rfl (Weak.gen [some 0, some 1] rfl ⟨⟨_, rfl, rfl, rfl, rfl, rfl, fun x j hx hj => regE (qlF_eq (c := fun x => ofR (Q.dvs d f N v (N - (i + 1)) x)) (e := fun x => ofR (Q.dpt (Q.dvq d f N v i) f (Q.dvs d f N v (N - (i + 1))) i 0 x)) (i := x) (k := x) (congrArg ofR (w4 i x).symm)) (ql_clos (c := fun x => ofR (Q.dpt (Q.dvq d f N v i) f (Q.dvs d f N v (N - (i + 1))) i 0 x)) x j)⟩, ⟨_, rfl, rfl, rfl, rfl, rfl, fun x j hx hj => regE rfl (ql_clos (c := qm (Q.dvq d f N v) i) x j)⟩, trivial⟩ ⟨.inl ⟨_, _, rfl, rfl, fun _ _ _ _ => rfl⟩, ⟨_, rfl, rfl, rfl⟩, ⟨_, _, rfl, rfl, rfl, rfl⟩, ⟨_, rfl, rfl⟩, .inl ⟨_, _, rfl, rfl, fun _ _ _ _ => rfl⟩, ⟨_, rfl, rfl⟩, ⟨_, rfl, rfl⟩, trivial⟩) (Nat.zero_le _) fun j hj => ?_
      have u1 : FnOK Tryz.prog true 192 [.g (rr (qm (Q.dvq d f N v) i (((i + 1 : Nat) : Int) - 1).toNat)), .g (nq (f j))] (.g (nq (Q.dvq d f N v i * f j))) := by
        rw [ei]
        exact p1 i j hiN
      have ej : 0 + (((i + 1 : Nat) : Int) - 1 + (j : Int)).toNat = i + j := by omega
      have u2 : FnOK Tryz.prog true 110 [.g (nq (Q.dpt (Q.dvq d f N v i) f (Q.dvs d f N v (N - (i + 1))) i j (0 + (((i + 1 : Nat) : Int) - 1 + (j : Int)).toNat))), .g (nq (Q.dvq d f N v i * f j))] (.g (nq (Q.dvs d f N v (N - (i + 1)) (i + j) - Q.dvq d f N v i * f j))) := by
        rw [ej]
        exact s1 i j hiN
      have u3 := w3 i j
      have u4 := w1 i hiN
      conv => whnf
      refine bcase (fun (h4 : decide ((j : Int) < ((d + 1 : Nat) : Int)) = true) => ?_) fun (h4 : decide ((j : Int) < ((d + 1 : Nat) : Int)) = false) => ?_
      · have h4 := of_decide_eq_true h4
        conv => whnf
        refine ⟨by omega, by omega, ?_⟩
        conv => whnf
        refine ⟨i64 (by omega) (by omega), ?_⟩
        conv => whnf
        refine ⟨i64 (by omega) (by omega), ?_⟩
        conv => whnf
        refine ⟨by omega, ?_⟩
        conv => whnf
        refine ⟨by show ((i + 1 : Nat) : Int) - 1 + (j : Int) < (n : Int); omega, ?_⟩
        conv => whnf
        refine ⟨by omega, by show ((i + 1 : Nat) : Int) - 1 < (N : Int); omega, ?_⟩
        conv => whnf
        refine ⟨_, u1, ?_⟩
        conv => whnf
        refine ⟨_, u2, ?_⟩
        conv => whnf
        refine ⟨by omega, ?_⟩
        conv => whnf
        refine ⟨by show ((i + 1 : Nat) : Int) - 1 + (j : Int) < (n : Int); omega, ?_⟩
        conv => whnf
        refine ⟨i64 (by omega) (by omega), ?_⟩
        conv => whnf
        refine ⟨j + 1, by omega, Weak.gen [some 0, some 1] rfl ⟨⟨_, rfl, rfl, rfl, rfl, rfl, fun x y hx hy => regE ?_ (ql_clos (c := fun x => ofR (Q.dpt (Q.dvq d f N v i) f (Q.dvs d f N v (N - (i + 1))) i (j + 1) x)) x y)⟩, ⟨_, rfl, rfl, rfl, rfl, rfl, fun x j hx hj => regE rfl (ql_clos (c := qm (Q.dvq d f N v) i) x j)⟩, trivial⟩ ⟨.inl ⟨_, _, rfl, rfl, fun _ _ _ _ => rfl⟩, ⟨_, rfl, rfl, rfl⟩, ⟨_, _, rfl, rfl, rfl, rfl⟩, ⟨_, rfl, rfl⟩, .inl ⟨_, _, rfl, rfl, fun _ _ _ _ => rfl⟩, ⟨_, rfl, rfl⟩, ⟨_, rfl, rfl⟩, trivial⟩, by omega⟩
        exact updG (sz := 4) (g := fun x => nq (Q.dpt (Q.dvq d f N v i) f (Q.dvs d f N v (N - (i + 1))) i j x)) (g' := fun x => nq (Q.dpt (Q.dvq d f N v i) f (Q.dvs d f N v (N - (i + 1))) i (j + 1) x)) (l := nq (Q.dvs d f N v (N - (i + 1)) (i + j) - Q.dvq d f N v i * f j)) rfl hy (by
          show (if x = 0 + (((i + 1 : Nat) : Int) - 1 + (j : Int)).toNat then nq (Q.dvs d f N v (N - (i + 1)) (i + j) - Q.dvq d f N v i * f j) else nq (Q.dpt (Q.dvq d f N v i) f (Q.dvs d f N v (N - (i + 1))) i j x)) = nq (Q.dpt (Q.dvq d f N v i) f (Q.dvs d f N v (N - (i + 1))) i (j + 1) x)
          rw [ej, ← u3 x]
          split <;> rfl)
      · have h4 := of_decide_eq_false h4
        have e : j = d + 1 := by omega
        conv => whnf
        refine swp_of E1_ok mixed (by kernel_rfl) ?_
        conv => whnf
        refine ⟨i64 (by omega) (by omega), ?_⟩
        conv => whnf
        exact ⟨i, by omega, Weak.gen [some 0, some 1] rfl ⟨⟨_, rfl, rfl, rfl, rfl, rfl, fun x y hx hy => regE (qlF_eq (c := fun x => ofR (Q.dpt (Q.dvq d f N v i) f (Q.dvs d f N v (N - (i + 1))) i j x)) (e := fun x => ofR (Q.dvs d f N v (N - i) x)) (i := x) (k := x) (congrArg ofR (by rw [e]; exact u4 x))) (ql_clos (c := fun x => ofR (Q.dvs d f N v (N - i) x)) x y)⟩, ⟨_, rfl, rfl, rfl, rfl, rfl, fun x j hx hj => regE rfl (ql_clos (c := qm (Q.dvq d f N v) i) x j)⟩, trivial⟩ ⟨.inl ⟨_, _, rfl, rfl, fun _ _ _ _ => rfl⟩, ⟨_, rfl, rfl, rfl⟩, ⟨_, _, rfl, rfl, rfl, rfl⟩, ⟨_, rfl, by omega⟩, trivial⟩, by omega⟩
  · have h := of_decide_eq_false h
    have hk0 : k = 0 := by omega
    subst hk0
    conv => whnf
    refine swp_of E1_ok mixed (by kernel_rfl) ?_
    conv => whnf
    refine .inr ⟨fun x j _ _ => ql_clos (c := qm (Q.dvq d f N v) 0) x j, ?_⟩
    conv => whnf
    refine ⟨_, hT1, ?_⟩
    conv => whnf
    refine .inr ⟨fun x j _ _ => ql_clos (c := fun x => ofR (Q.dvs d f N v (N - 0) x)) x j, ?_⟩
    conv => whnf
    refine ⟨_, hT2, ?_⟩
    conv => whnf
    exact ⟨rfl, Sub.refl _⟩
end Rf
end Go.Proofs.YtmbejakmeijcbaaGreat
/- Quotient and remainder by a monic polynomial in the program. -/
namespace Go.Proofs.YtmbejakmeijcbaaGreat
open Go.RowKit
theorem FnOK.res {P : Program} {r : Bool} {f : FuncId} {args : List V} {X X' : V} (h : FnOK P r f args X) (s : Sub X X') : FnOK P r f args X' :=
  ⟨h.1, fun D w vs a b c => (h.2 D w vs a b c).mono fun _ _ ⟨v, e, hv, hb⟩ => ⟨v, e, s _ _ _ hv, hb⟩⟩
/-- The rest, of a list of length m. -/
def Q.rst (d : Nat) (f p : Nat → Rat) (m : Nat) : Nat → Rat := Q.dvs d f (m - d) p (m - d)
theorem Q.rst_rm {d m : Nat} {f p : Nat → Rat} (hf : Q.Mon d f) (hp : Q.Fin m p) : Q.Rm d f p (Q.rst d f p m) :=
  Q.dvs_rm hf (hp.mono (by omega))
theorem Q.rst_len {d m : Nat} {f p : Nat → Rat} (hf : Q.Mon d f) (hp : Q.Fin m p) : Q.tq (Q.rst d f p m) m = Q.tq (Q.rst d f p m) d := by
  have h := (Q.rst_rm hf hp).1
  refine Q.tq_eq ?_ h
  rcases Nat.lt_or_ge m d with c | c
  · have e : Q.rst d f p m = p := by
      unfold Q.rst
      rw [show m - d = 0 by omega]; rfl
    rw [e]; exact hp
  · exact h.mono c
namespace Rf
set_option maxHeartbeats 4000000 in
theorem qpdiv_short {n d : Nat} {v f : Nat → Rat} {K : Nat} (ht : Q.tq v n = n) (hnd : n ≤ d) (hn : n ≤ 4096) (hs : ∀ k, qlen (v k) ≤ K) (hL : K + 3 ≤ LIM) : FnOK Tryz.prog true 184 [.c (nql n v), .c (nql (d + 1) f)] (.t2 (.c .nil) (.c (nql n v))) := by
  have h1 := qnorm_ok (q := fun i => ofR (v i)) (v := v) (n := n) (funext fun i => ofR_val _) (by omega) (fun i _ => ofR_fit (hs i)) hL
  rw [ht] at h1
  refine fn_ok (E := E1) E1_ok Tryz.func184 rfl mixed (by kernel_rfl) (by kernel_rfl) ?_
  conv => whnf
  refine .inr ?_
  conv => whnf
  refine ⟨_, h1, ?_⟩
  conv => whnf
  refine bpos (show decide ((n : Int) < ((d + 1 : Nat) : Int)) = true from decide_eq_true (by omega)) ?_
  conv => whnf
  exact ⟨rfl, Sub.refl _⟩
theorem qnorm_x {n : Nat} {q : Nat → RawR} {L : Nat} {p : Nat → Rat} (hp : Q.qx n (fun i => (q i).val) = p) (hn : n ≤ 1048576) (hq : ∀ i, i < n → (q i).Fit L) (hL : L + 3 ≤ LIM) : FnOK Tryz.prog true 183 [.c (ql n q)] (.c (nql (Q.tq p n) p)) := by
  have h := qnorm_ok (q := q) rfl hn hq hL
  have e : Q.tq (fun i => (q i).val) n = Q.tq p n := Q.tq_congr fun i hi => by rw [← hp, Q.qx_lt hi]
  rw [e] at h
  refine h.res (subRowG rfl fun i j hi hj => qlF_eq (c := fun i => ofR (q i).val) (e := fun i => ofR (p i)) (i := i) (k := i) (congrArg ofR ?_))
  have := Q.tq_le p n
  rw [← hp, Q.qx_lt (by omega)]
/-- The division: some quotient, and the rest. -/
theorem qpdivide_ok {n d : Nat} {p f : Nat → Rat} {K : Nat} (hf : Q.Mon d f) (ht : Q.tq p n = n) (hn : n ≤ 4096) (hs : ∀ t k, t ≤ n - d → qlen (Q.dvs d f (n - d) p t k) ≤ K) (hg : ∀ j, qlen (f j) ≤ K) (h1 : 1 ≤ K) (hL : K + K + K + 16 ≤ LIM) : ∃ Y : Cell, (Y = .nil ∨ ∃ N u, Y = nql N u) ∧ FnOK Tryz.prog true 184 [.c (nql n p), .c (nql (d + 1) f)] (.t2 (.c Y) (.c (nql (Q.tq (Q.rst d f p n) n) (Q.rst d f p n)))) := by
  rcases Nat.lt_or_ge d n with c | c
  · exact ⟨_, .inr ⟨_, _, rfl⟩, qpdiv_long hf ht c hn hs hg h1 hL⟩
  · refine ⟨.nil, .inl rfl, ?_⟩
    have e : Q.rst d f p n = p := by
      unfold Q.rst
      rw [show n - d = 0 by omega]; rfl
    rw [e, ht]
    exact qpdiv_short ht c hn (fun k => hs 0 k (Nat.zero_le _)) (by omega)
set_option maxHeartbeats 4000000 in
theorem qpdivmod_ok {n d : Nat} {q : Nat → RawR} {p f : Nat → Rat} {L K : Nat} (hp : Q.qx n (fun i => (q i).val) = p) (hf : Q.Mon d f) (hn : n ≤ 4096) (hd : d ≤ 4096) (hq : ∀ i, i < n → (q i).Fit L) (hs : ∀ t k, t ≤ Q.tq p n - d → qlen (Q.dvs d f (Q.tq p n - d) p t k) ≤ K) (hg : ∀ j, qlen (f j) ≤ K) (h1 : 1 ≤ K) (hL : L + 3 ≤ LIM) (hL2 : K + K + K + 16 ≤ LIM) : ∃ Y : Cell, (Y = .nil ∨ ∃ N u, Y = nql N u) ∧ FnOK Tryz.prog true 144 [.c (ql n q), .c (nql (d + 1) f)] (.t3 (.c Y) (.c (nql (Q.tq (Q.rst d f p (Q.tq p n)) d) (Q.rst d f p (Q.tq p n)))) (.c (.int .i64 0))) := by
  have n1 := qnorm_x hp (by omega) hq hL
  have n2 := qnorm_ok (q := fun i => ofR (f i)) (v := f) (n := d + 1) (funext fun i => ofR_val _) (by omega) (fun i _ => ofR_fit (hg i)) (by omega)
  rw [Q.tq_self (n := d + 1) (v := f) fun k hk => by
    rw [show k = d by omega, hf.top]; decide] at n2
  have fp : Q.Fin n p := by rw [← hp]; exact Q.qx_fin _ _
  have hm := Q.tq_le p n
  have ht : Q.tq p (Q.tq p n) = Q.tq p n := Q.tq_self fun k hk => Q.tq_top hk
  obtain ⟨Y, hY, n3⟩ := qpdivide_ok hf ht (by omega) hs hg h1 hL2
  rw [Q.rst_len hf (Q.tq_fin fp)] at n3
  refine ⟨Y, hY, ?_⟩
  generalize Q.rst d f p (Q.tq p n) = r at *
  generalize Q.tq r d = T at *
  generalize Q.tq p n = m at *
  clear hs hg hq hp fp ht
  rcases hY with rfl | ⟨N', u, rfl⟩
  all_goals
    refine fn_ok (E := E1) E1_ok Tryz.func144 rfl mixed (by kernel_rfl) (by kernel_rfl) ?_
    conv => whnf
    refine .inr ?_
    conv => whnf
    refine ⟨_, n2, ?_⟩
    conv => whnf
    refine .inr ?_
    conv => whnf
    refine ⟨_, n1, ?_⟩
    conv => whnf
    refine ⟨_, n3, ?_⟩
    conv => whnf
    exact ⟨rfl, Sub.refl _⟩
end Rf
end Go.Proofs.YtmbejakmeijcbaaGreat
/- Fractions with a common denominator, and how long they are. -/
namespace Go.Proofs.YtmbejakmeijcbaaGreat
/-- Over the denominator D, the numerator at most B. -/
def Bd (D B : Nat) (x : Rat) : Prop := ∃ z : Int, x * ((D : Int) : Rat) = (z : Rat) ∧ z.natAbs ≤ B
theorem Bd.zero (D B : Nat) : Bd D B 0 := ⟨0, by rw [Rat.zero_mul]; rfl, Nat.zero_le _⟩
theorem Bd.mono {D B B' : Nat} {x : Rat} (h : Bd D B x) (hB : B ≤ B') : Bd D B' x := by
  obtain ⟨z, h1, h2⟩ := h
  exact ⟨z, h1, by omega⟩
theorem Bd.add {D B B' : Nat} {x y : Rat} (h : Bd D B x) (h' : Bd D B' y) : Bd D (B + B') (x + y) := by
  obtain ⟨z, h1, h2⟩ := h
  obtain ⟨w, g1, g2⟩ := h'
  refine ⟨z + w, by rw [Rat.add_mul, h1, g1, Rat.intCast_add], ?_⟩
  have := Int.natAbs_add_le z w
  omega
theorem Bd.neg {D B : Nat} {x : Rat} (h : Bd D B x) : Bd D B (-x) := by
  obtain ⟨z, h1, h2⟩ := h
  exact ⟨-z, by rw [Rat.neg_mul, h1, Rat.intCast_neg], by omega⟩
theorem Bd.sub {D B B' : Nat} {x y : Rat} (h : Bd D B x) (h' : Bd D B' y) : Bd D (B + B') (x - y) := by
  rw [Rat.sub_eq_add_neg]
  exact h.add h'.neg
theorem Bd.mul {D D' B B' : Nat} {x y : Rat} (h : Bd D B x) (h' : Bd D' B' y) : Bd (D * D') (B * B') (x * y) := by
  obtain ⟨z, h1, h2⟩ := h
  obtain ⟨w, g1, g2⟩ := h'
  refine ⟨z * w, ?_, ?_⟩
  · rw [Rat.intCast_mul, ← h1, ← g1, Int.natCast_mul, Rat.intCast_mul]
    grind
  · rw [Int.natAbs_mul]
    exact Nat.mul_le_mul h2 g2
theorem Bd.scale {D B : Nat} (e : Nat) {x : Rat} (h : Bd D B x) : Bd (D * e) (B * e) x := by
  obtain ⟨z, h1, h2⟩ := h
  refine ⟨z * (e : Int), ?_, ?_⟩
  · rw [Rat.intCast_mul, ← h1, Int.natCast_mul, Rat.intCast_mul]
    grind
  · rw [Int.natAbs_mul]
    exact Nat.mul_le_mul h2 (Nat.le_refl _)
theorem Bd.len {D B L : Nat} {x : Rat} (h : Bd D B x) (h0 : 0 < D) (hD : D < Dg.B ^ L) (hB : B < Dg.B ^ L) (h1 : 1 ≤ L) : qlen x ≤ L := by
  obtain ⟨z, e1, e2⟩ := h
  have hx : x = ratio z (D : Int) := by
    unfold ratio
    rw [← e1]
    have : ((D : Int) : Rat) ≠ 0 := fun e => by
      have e : ((D : Int) : Rat) = ((0 : Int) : Rat) := e
      have := Rat.intCast_inj.1 e
      omega
    grind
  rw [hx]
  exact qlen_ratio (zlen_le (by omega)) (zlen_le (by simpa using hD)) h1
theorem Bd.int (x : Int) : Bd 1 x.natAbs (x : Rat) := ⟨x, by rw [show (((1 : Nat) : Int) : Rat) = 1 from rfl, Rat.mul_one], Nat.le_refl _⟩
theorem Bd.self (x : Rat) : Bd x.den x.num.natAbs x := ⟨x.num, by
  have h : ((x.num : Int) : Rat) / ((x.den : Int) : Rat) = x := ratio_num_den x
  have hd : ((x.den : Int) : Rat) ≠ 0 := fun e => by
    have e : ((x.den : Int) : Rat) = ((0 : Int) : Rat) := e
    have := Rat.intCast_inj.1 e
    have := x.den_pos
    omega
  grind, Nat.le_refl _⟩
namespace Q
theorem dvs_bd {d N D B C : Nat} {f p : Nat → Rat} (hp : ∀ k, Bd D B (p k)) (hf : ∀ j, Bd 1 C (f j)) : ∀ t k, Bd D (B * (1 + C) ^ t) (dvs d f N p t k)
  | 0, k => by rw [Nat.pow_zero, Nat.mul_one]; exact hp k
  | t + 1, k => by
    have h := dvs_bd (d := d) (N := N) hp hf t
    show Bd D _ (dvs d f N p t k - _)
    rw [Nat.pow_succ, ← Nat.mul_assoc, Nat.mul_add, Nat.mul_one]
    refine (h k).sub ?_
    split
    · have := (h (N - 1 - t + d)).mul (hf (k - (N - 1 - t)))
      rwa [Nat.mul_one] at this
    · exact Bd.zero _ _
/-- Fractions over one denominator. -/
theorem common (M : Nat) (hM : 0 < M) (v : Nat → Rat) : ∀ n, (∀ i, i < n → (v i).den ≤ M ∧ (v i).num.natAbs ≤ M) → ∃ D, 0 < D ∧ D ≤ M ^ n ∧ ∀ i, i < n → Bd D (M * M ^ n) (v i)
  | 0, _ => ⟨1, by decide, Nat.le_refl _, fun i hi => absurd hi (Nat.not_lt_zero i)⟩
  | n + 1, h => by
    obtain ⟨D, h1, h2, h3⟩ := common M hM v n fun i hi => h i (by omega)
    obtain ⟨g1, g2⟩ := h n (by omega)
    have g0 := (v n).den_pos
    refine ⟨D * (v n).den, Nat.mul_pos h1 g0, ?_, fun i hi => ?_⟩
    · rw [Nat.pow_succ]; exact Nat.mul_le_mul h2 g1
    · rcases Nat.lt_or_ge i n with c | c
      · refine ((h3 i c).scale (v n).den).mono ?_
        rw [Nat.pow_succ, ← Nat.mul_assoc]
        exact Nat.mul_le_mul (Nat.le_refl _) g1
      · rw [show i = n by omega]
        have := (Bd.self (v n)).scale D
        rw [Nat.mul_comm D]
        refine this.mono ?_
        refine Nat.mul_le_mul g2 (Nat.le_trans h2 ?_)
        exact Nat.pow_le_pow_right hM (by omega)
end Q
end Go.Proofs.YtmbejakmeijcbaaGreat
/- The ring of rests modulo a monic polynomial, and the matrices of its multiplications. No condition. -/
namespace Go.Proofs.YtmbejakmeijcbaaGreat
namespace Q
/-- The power of the letter. -/
def xp (i k : Nat) : Rat := if k = i then 1 else 0
theorem xp_fin (i : Nat) : Fin (i + 1) (xp i) := fun k hk => if_neg (by omega)
theorem cf_xp (i : Nat) (f : Nat → Rat) (k : Nat) : cf (xp i) f k = if i ≤ k then f (k - i) else 0 := by
  have := cf_mono 1 i f k
  rw [show cf (xp i) f k = cf (fun j => if j = i then (1 : Rat) else 0) f k from rfl, this]
  split
  · rw [Rat.one_mul]
  · rfl
theorem xp_add (i j k : Nat) : cf (xp i) (xp j) k = xp (i + j) k := by
  rw [cf_xp]
  unfold xp
  by_cases h : i ≤ k
  · rw [if_pos h]
    by_cases e : k = i + j
    · rw [if_pos (by omega), if_pos e]
    · rw [if_neg (by omega), if_neg e]
  · rw [if_neg h, if_neg (by omega)]
theorem Rm.mul' {n m : Nat} {f p r g s : Nat → Rat} (h : Rm n f p r) (hg : Fin m g) (h' : Rm n f (cf g r) s) : Rm n f (cf g p) s := by
  have := h.mul hg (h'.congr fun k => cf_comm g r k)
  exact this.congr fun k => cf_comm p g k
theorem Rm.trans_eq {n : Nat} {f p r s : Nat → Rat} (h : Rm n f p r) (e : ∀ k, r k = s k) : Rm n f p s := by
  have : r = s := funext e
  rwa [← this]
/-- The rows of a multiplication matrix: each the one before, times the letter. -/
structure Rws (n : Nat) (f A g : Nat → Rat) (a : Nat → Nat → Rat) : Prop where
  first : Rm n f A (a 0)
  next : ∀ i, Rm n f (cf (a i) g) (a (i + 1))
end Q
end Go.Proofs.YtmbejakmeijcbaaGreat
/- A well-formed number field opened; normal forms, sums and products of its elements. -/
namespace Go.Proofs.YtmbejakmeijcbaaGreat
open Go.RowKit
namespace Rf
abbrev ringL (d : Nat) (f : Nat → Rat) : List Cell := [nql (d + 1) f, .int .i64 (((d + 1 : Nat) : Int) - 1)]
set_option maxHeartbeats 4000000 in
theorem open_good {n d : Nat} {c : Nat → RawZ} {f : Nat → Rat} (hfv : (fun i => ((vz c i : Int) : Rat)) = f) (h : wl n c) (hd : tl (vz c) n = d + 1) (h1 : 1 ≤ d) (h2 : d ≤ 12) (h3 : vz c d = 1) : FnOK Tryz.prog true 89 [.g [zl n c]] (.t2 (.c (.xp 2 fun j => boxF (ringL d f) 0 (0 + j))) (.c (.int .i64 0))) := by
  have n1 := znormal_ok h
  have hw : wl (tl (vz c) n) fun i => ofZ (vz c i) := ⟨Nat.le_trans (tl_le _ _) h.1, fun i hi => wr_nz (Nat.le_trans (wr_len (h.2 i (Nat.lt_of_lt_of_le hi (tl_le _ _)))) (h.2 i (Nat.lt_of_lt_of_le hi (tl_le _ _))).2)⟩
  have e1 : vz (fun i => ofZ (vz c i)) = vz c := funext fun i => ofZ_val _
  have n2 := qpof_eq (v := f) (by rw [← hfv, e1]) hw
  rw [e1, tl_tl, hd] at n2
  rw [hd] at n1
  have n3 := qof_ok (n := 1) (by decide) (by decide)
  have n4 : FnOK Tryz.prog true 79 [.g (nq (f (((d + 1 : Nat) : Int) - 1).toNat)), .g (nq ((1 : Int) : Rat))] (.c (.int .i64 0)) := by
    have := qcmp_one (x := 1) (by decide)
    rw [show (((d + 1 : Nat) : Int) - 1).toNat = d by omega, ← hfv]
    show FnOK _ _ _ [.g (nq ((vz c d : Int) : Rat)), _] _
    rw [h3]
    exact this
  clear hfv h hd hw e1 h3
  generalize vz c = v at *
  refine fn_ok (E := E1) E1_ok Tryz.func89 rfl mixed (by kernel_rfl) (by kernel_rfl) ?_
  conv => whnf
  refine ⟨_, n1, ?_⟩
  conv => whnf
  refine ⟨_, n2, ?_⟩
  conv => whnf
  refine ⟨i64 (by omega) (by omega), ?_⟩
  conv => whnf
  refine bpos (gw_true.2 (show decide (((d + 1 : Nat) : Int) - 1 < 1) = false from decide_eq_false (by omega))) ?_
  conv => whnf
  refine bpos (gw_true.2 (show decide ((12 : Int) < ((d + 1 : Nat) : Int) - 1) = false from decide_eq_false (by omega))) ?_
  conv => whnf
  refine ⟨by omega, by omega, ?_⟩
  conv => whnf
  refine ⟨_, n3, ?_⟩
  conv => whnf
  refine ⟨_, n4, ?_⟩
  conv => whnf
  refine ⟨fun i j _ _ => box_clos (l := ringL d f) (i := i) (j := j) rfl, ?_⟩
  conv => whnf
  exact ⟨rfl, Sub.refl _⟩
abbrev ringP (d : Nat) (f : Nat → Rat) : V := .c (.xp 2 fun j => boxF (ringL d f) 0 (0 + j))
set_option maxHeartbeats 4000000 in
theorem rnormal_raw {n d : Nat} {q : Nat → RawR} {p f : Nat → Rat} {L K : Nat} (hp : Q.qx n (fun i => (q i).val) = p) (hf : Q.Mon d f) (hn : n ≤ 4096) (hd : d ≤ 4096) (hq : ∀ i, i < n → (q i).Fit L) (hs : ∀ t k, t ≤ Q.tq p n - d → qlen (Q.dvs d f (Q.tq p n - d) p t k) ≤ K) (hg : ∀ j, qlen (f j) ≤ K) (h1 : 1 ≤ K) (hL : L + 3 ≤ LIM) (hL2 : K + K + K + 16 ≤ LIM) : FnOK Tryz.prog true 108 [ringP d f, .c (ql n q)] (.c (nql (Q.tq (Q.rst d f p (Q.tq p n)) d) (Q.rst d f p (Q.tq p n)))) := by
  obtain ⟨Y, hY, n3⟩ := qpdivmod_ok hp hf hn hd hq hs hg h1 hL hL2
  clear hs hg hq hp hf
  generalize Q.rst d f p (Q.tq p n) = r at *
  generalize Q.tq r d = T at *
  rcases hY with rfl | ⟨N', u, rfl⟩
  all_goals
    refine fn_ok (E := E1) E1_ok Tryz.func108 rfl mixed (by kernel_rfl) (by kernel_rfl) ?_
    conv => whnf
    refine ⟨_, n3, ?_⟩
    conv => whnf
    exact ⟨rfl, Sub.refl _⟩
/-- How long numbers may get, in digits. -/
abbrev KD : Nat := 1048576
/-- A monic polynomial over the integers, its coefficients at most C. -/
structure Fd (d C : Nat) (f : Nat → Rat) : Prop where
  mon : Q.Mon d f
  pos : 1 ≤ d
  low : d ≤ 12
  bd : ∀ j, Bd 1 C (f j)
  small : C < Dg.B ^ KD
theorem bd_fit {D B : Nat} {x : Rat} (h : Bd D B x) (h0 : 0 < D) (hD : D < Dg.B ^ KD) (hB : B < Dg.B ^ KD) : qlen x ≤ KD := h.len h0 hD hB (by decide)
theorem one_lt_kd : 1 < Dg.B ^ KD := Nat.lt_of_lt_of_le (show 1 < Dg.B ^ 1 by decide) (Nat.pow_le_pow_right (by decide) (by decide))
theorem rnormal_ok {n d D B C : Nat} {q : Nat → RawR} {p f : Nat → Rat} (hF : Fd d C f) (hp : Q.qx n (fun i => (q i).val) = p) (hn : n ≤ 64) (hq : ∀ i, i < n → (q i).Fit KD) (h0 : 0 < D) (hD : D < Dg.B ^ KD) (hb : ∀ k, Bd D B (p k)) (hB : B * (1 + C) ^ n < Dg.B ^ KD) : ∃ r, Q.Rm d f p r ∧ (∀ k, Bd D (B * (1 + C) ^ n) (r k)) ∧ FnOK Tryz.prog true 108 [ringP d f, .c (ql n q)] (.c (nql (Q.tq r d) r)) := by
  have fp : Q.Fin n p := by rw [← hp]; exact Q.qx_fin _ _
  have hm := Q.tq_le p n
  have hst : ∀ t k, t ≤ Q.tq p n - d → Bd D (B * (1 + C) ^ n) (Q.dvs d f (Q.tq p n - d) p t k) := fun t k ht => (Q.dvs_bd hb hF.bd t k).mono (Nat.mul_le_mul_left _ (Nat.pow_le_pow_right (by omega) (by omega)))
  have hlow := hF.low
  exact ⟨Q.rst d f p (Q.tq p n), Q.rst_rm hF.mon (Q.tq_fin fp), fun k => hst _ k (Nat.le_refl _), rnormal_raw hp hF.mon (by omega) (by omega) hq (fun t k ht => bd_fit (hst t k ht) h0 hD hB) (fun j => bd_fit (hF.bd j) (by decide) one_lt_kd hF.small) (by decide) (by decide) (by decide)⟩
end Rf
end Go.Proofs.YtmbejakmeijcbaaGreat
/- Number fields: the calls of sums and products; coordinates, and the letter. -/
namespace Go.Proofs.YtmbejakmeijcbaaGreat
open Go.RowKit
namespace Rf
theorem qof_one : FnOK Tryz.prog true 44 [.c (.int .i64 1)] (.g (nq 1)) := by
  have h := qof_ok (n := 1) (by decide) (by decide)
  rwa [show ((1 : Int) : Rat) = 1 from rfl] at h
theorem app_zero {f g : Nat → Nat → Cell} (i j : Nat) : appF 0 f g i j = g i j := if_neg (Nat.not_lt_zero i)
end Rf
end Go.Proofs.YtmbejakmeijcbaaGreat
/- The document's fractions in normal form: sign, comparison, product, sum; combinations of lists. -/
namespace Go.Proofs.YtmbejakmeijcbaaGreat
open Go.RowKit
namespace Rf
theorem lenZ {x : Rat} {L : Nat} (h : qlen x ≤ L) : zlen x.num ≤ L ∧ zlen (x.den : Int) ≤ L := by
  have h : max (zlen x.num) (zlen (x.den : Int)) ≤ L := h
  omega
theorem wq_n {x : Rat} (h : qlen x ≤ 524286) : wq (ofR x) := by
  have h1 := lenZ h
  refine ⟨⟨wr_nz (by omega), wr_nz (by omega)⟩, ?_, ?_⟩
  · show zlen (ofZ x.num).val ≤ _
    rw [ofZ_val]; exact h1.1
  · show zlen (ofZ (x.den : Int)).val ≤ _
    rw [ofZ_val]; exact h1.2
theorem rqnorm_n {x : Rat} (h : qlen x ≤ 524286) : FnOK Tryz.prog false 120 [.g (nq x)] (.g (nq x)) := by
  have := rqnormal_ok (wq_n h)
  rwa [ofR_val] at this
set_option maxHeartbeats 4000000 in
theorem rqsign_n {x : Rat} (h : qlen x ≤ 524286) : FnOK Tryz.prog false 52 [.g (nq x)] (.c (.int .i64 x.num.sign)) := by
  have h1 := lenZ h
  have s1 := zsign_ok (a := ofZ x.num) (wr_nz (by omega))
  have s2 := zsign_ok (a := ofZ (x.den : Int)) (wr_nz (by omega))
  rw [ofZ_val] at s1 s2
  have e : x.num.sign * (x.den : Int).sign = x.num.sign := by
    have := x.den_pos
    rw [Int.sign_eq_one_of_pos (show (0 : Int) < (x.den : Int) by omega), Int.mul_one]
  refine fn_ok (E := E0) E0_ok Tryz.func52 rfl mixed (by kernel_rfl) (by kernel_rfl) ?_
  conv => whnf
  refine ⟨_, s1, ?_⟩
  conv => whnf
  refine ⟨_, s2, ?_⟩
  conv => whnf
  refine ⟨sign_range _ _, ?_⟩
  conv => whnf
  exact ⟨rfl, Sub.int e⟩
set_option maxHeartbeats 4000000 in
theorem rqsame_n {x y : Rat} (h : qlen x ≤ 524286) : FnOK Tryz.prog false 23 [.g (nq x), .g (nq y)] (.c (.bool (decide (x = y)))) := by
  have h1 := lenZ h
  have s1 := same_nz (x := x.num) (y := y.num) (by omega)
  have s2 := same_nz (x := (x.den : Int)) (y := (y.den : Int)) (by omega)
  have e : x = y ↔ x.num = y.num ∧ (x.den : Int) = (y.den : Int) := ⟨fun e => by rw [e]; exact ⟨rfl, rfl⟩, fun ⟨a, b⟩ => Rat.ext a (by omega)⟩
  have e1 : x.num ≠ y.num → false = decide (x = y) := fun a => (decide_eq_false fun b => a (e.1 b).1).symm
  have e2 : x.num = y.num → decide ((x.den : Int) = (y.den : Int)) = decide (x = y) := fun a => decide_eq_decide.2 ⟨fun b => e.2 ⟨a, b⟩, fun b => (e.1 b).2⟩
  refine fn_ok (E := E0) E0_ok Tryz.func23 rfl mixed (by kernel_rfl) (by kernel_rfl) ?_
  conv => whnf
  refine ⟨_, s1, ?_⟩
  conv => whnf
  refine bcase (fun (c : gw true (decide (x.num = y.num)) = true) => ?_) fun (c : gw true (decide (x.num = y.num)) = false) => ?_
  · have c := e2 (of_decide_eq_true (gw_true.1 c))
    conv => whnf
    refine ⟨_, s2, ?_⟩
    conv => whnf
    exact ⟨rfl, sub_bool c⟩
  · have c := e1 (of_decide_eq_false (gw_false.1 c))
    conv => whnf
    exact ⟨rfl, sub_bool c⟩
theorem over_n {a b : Int} {x : Rat} (hx : ratio a b = x) (h1 : zlen a ≤ 524286) (h2 : zlen b ≤ 524286) : FnOK Tryz.prog false 121 [.g (nz a), .g (nz b)] (.g (nq x)) := by
  have := rover_ok (a := ofZ a) (b := ofZ b) (wr_nz (by omega)) (wr_nz (by omega)) (by rw [ofZ_val]; exact h1) (by rw [ofZ_val]; exact h2)
  rw [ofZ_val, ofZ_val, hx] at this
  exact this
set_option maxHeartbeats 4000000 in
theorem rqmul_n {x y : Rat} (hx : qlen x ≤ 65535) (hy : qlen y ≤ 65535) : FnOK Tryz.prog false 84 [.g (nq x), .g (nq y)] (.g (nq (x * y))) := by
  have h1 := lenZ hx
  have h2 := lenZ hy
  have m1 := zmul_n (a := x.num) (b := y.num) (by omega)
  have m2 := zmul_n (a := (x.den : Int)) (b := (y.den : Int)) (by omega)
  have l1 := zlen_mul x.num y.num
  have l2 := zlen_mul (x.den : Int) (y.den : Int)
  have o := over_n (x := x * y) (a := x.num * y.num) (b := (x.den : Int) * (y.den : Int)) (by rw [← ratio_mul, ratio_num_den, ratio_num_den]) (by omega) (by omega)
  refine fn_ok (E := E0) E0_ok Tryz.func84 rfl mixed (by kernel_rfl) (by kernel_rfl) ?_
  conv => whnf
  refine ⟨_, m1, ?_⟩
  conv => whnf
  refine ⟨_, m2, ?_⟩
  conv => whnf
  refine ⟨_, o, ?_⟩
  conv => whnf
  exact ⟨rfl, Sub.refl _⟩
set_option maxHeartbeats 4000000 in
theorem rqadd_n {x y : Rat} (hx : qlen x ≤ 131070) (hy : qlen y ≤ 131070) : FnOK Tryz.prog false 83 [.g (nq x), .g (nq y)] (.g (nq (x + y))) := by
  have h1 := lenZ hx
  have h2 := lenZ hy
  have n1 := rqnorm_n (x := x) (by omega)
  have n2 := rqnorm_n (x := y) (by omega)
  have m1 := zmul_n (a := x.num) (b := (y.den : Int)) (by omega)
  have m2 := zmul_n (a := y.num) (b := (x.den : Int)) (by omega)
  have m3 := zmul_n (a := (x.den : Int)) (b := (y.den : Int)) (by omega)
  have l1 := zlen_mul x.num (y.den : Int)
  have l2 := zlen_mul y.num (x.den : Int)
  have l3 := zlen_mul (x.den : Int) (y.den : Int)
  have l4 := zlen_add (x.num * (y.den : Int)) (y.num * (x.den : Int))
  have a1 := zadd_ok (a := ofZ (x.num * (y.den : Int))) (b := ofZ (y.num * (x.den : Int))) (wr_nz (by omega)) (wr_nz (by omega)) (by rw [ofZ_val]; omega) (by rw [ofZ_val]; omega)
  rw [ofZ_val, ofZ_val] at a1
  have d1 := x.den_pos
  have d2 := y.den_pos
  have o := over_n (x := x + y) (a := x.num * (y.den : Int) + y.num * (x.den : Int)) (b := (x.den : Int) * (y.den : Int)) (by rw [← ratio_add (by omega) (by omega), ratio_num_den, ratio_num_den]) (by omega) (by omega)
  refine fn_ok (E := E0) E0_ok Tryz.func83 rfl mixed (by kernel_rfl) (by kernel_rfl) ?_
  conv => whnf
  refine ⟨_, n1, ?_⟩
  conv => whnf
  refine ⟨_, n2, ?_⟩
  conv => whnf
  refine ⟨_, m1, ?_⟩
  conv => whnf
  refine ⟨_, m2, ?_⟩
  conv => whnf
  refine ⟨_, a1, ?_⟩
  conv => whnf
  refine ⟨_, m3, ?_⟩
  conv => whnf
  refine ⟨_, o, ?_⟩
  conv => whnf
  exact ⟨rfl, Sub.refl _⟩
end Rf
end Go.Proofs.YtmbejakmeijcbaaGreat
/- The document's lists of fractions: zeros, combinations. -/
namespace Go.Proofs.YtmbejakmeijcbaaGreat
open Go.RowKit
namespace Rf
theorem rqof_zero : FnOK Tryz.prog false 33 [.c (.int .i64 0)] (.g (nq 0)) := by
  have h := rqof_ok (n := 0) (by decide) (by decide)
  rwa [show ((0 : Int) : Rat) = 0 from rfl] at h
theorem app_sameq (v : Nat → Rat) (i j : Nat) : (if j = i then nq (v i) else nq (v j)) = nq (v j) := app_same (fun i => nq (v i)) i j
theorem one_nq {bl : List Blk} (x : Rat) (r : Bool) (i j : Nat) (hi : i < 1) (hj : j < 4) : St.one bl (rowF 4 (nq x) i j) = true ∧ (r = true → (rowF 4 (nq x) i j).noU = true) := by
  match i, j, hi, hj with
  | 0, 0, _, _ => exact ⟨rfl, fun _ => rfl⟩
  | 0, 1, _, _ => exact ⟨rfl, fun _ => rfl⟩
  | 0, 2, _, _ => exact ⟨rfl, fun _ => rfl⟩
  | 0, 3, _, _ => exact ⟨rfl, fun _ => rfl⟩
end Rf
end Go.Proofs.YtmbejakmeijcbaaGreat
/- The document's matrices: rows. -/
namespace Go.Proofs.YtmbejakmeijcbaaGreat
open Go.RowKit
namespace Rf
end Rf
end Go.Proofs.YtmbejakmeijcbaaGreat
/- The document's matrices: a list times a matrix; a matrix of rows; products. -/
namespace Go.Proofs.YtmbejakmeijcbaaGreat
open Go.RowKit
namespace Rf
end Rf
end Go.Proofs.YtmbejakmeijcbaaGreat
/- The document's product of matrices. -/
namespace Go.Proofs.YtmbejakmeijcbaaGreat
open Go.RowKit
namespace Rf
end Rf
end Go.Proofs.YtmbejakmeijcbaaGreat
/- Lists and matrices are the same as themselves. -/
namespace Go.Proofs.YtmbejakmeijcbaaGreat
open Go.RowKit
namespace Rf
end Rf
end Go.Proofs.YtmbejakmeijcbaaGreat
