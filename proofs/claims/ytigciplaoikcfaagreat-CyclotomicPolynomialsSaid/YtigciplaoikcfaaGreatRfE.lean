/- The document's comparisons of integers, and the number of binary digits. -/
import Derived.Test.YtigciplaoikcfaaGreatRfA
namespace Go.Proofs.YtigciplaoikcfaaGreat
open Go.RowKit
namespace Rf
theorem box_clos {l : List Cell} {i j : Nat} (h : l.all Cell.clos = true) : (boxF l i j).clos = true := by
  unfold boxF
  rw [List.getD_eq_getElem?_getD]
  cases e : l[j]? with
  | none => rfl
  | some c => exact List.all_eq_true.1 h _ (List.mem_of_getElem? e)
/-- A box that stands as it was. -/
theorem boxK {q k t sz u : Nat} {bl : List Blk} {ks : List (Option Nat)} {l : List Cell} (h : bl[k]? = some ⟨t, sz, 1, u, 0, boxF l⟩) (hc : l.all Cell.clos = true) : srcG q bl ks ⟨t, sz, 1, boxF l⟩ (some k) :=
  ⟨_, h, rfl, rfl, rfl, rfl, fun i j _ _ => regE rfl (box_clos (i := i) (j := j) hc)⟩
abbrev gi (s : Bool) (q : Nat) (d : Nat → Nat) : Gx := ⟨61, 2, 1, boxF [.bool s, dn q d]⟩
theorem cmp_top {x y : Nat} {a b : Nat → Nat} {n k : Nat} (ha : DOk n a) (hb : DOk n b) (hx : nv a n = x) (hy : nv b n = y) (hk : k < n) (hh : ∀ i, k < i → i < n → a i = b i) (hne : a k ≠ b k) : x < y ↔ a k < b k := by
  have step : ∀ j, k + 1 + j ≤ n → ∃ H, nv a (k + 1 + j) = nv a (k + 1) + H ∧ nv b (k + 1 + j) = nv b (k + 1) + H := by
    intro j
    induction j with
    | zero => exact fun _ => ⟨0, rfl, rfl⟩
    | succ j ih =>
      intro h
      obtain ⟨H, h1, h2⟩ := ih (by omega)
      refine ⟨H + BB ^ (k + 1 + j) * b (k + 1 + j), ?_, ?_⟩
      · show nv a (k + 1 + j) + BB ^ (k + 1 + j) * a (k + 1 + j) = _
        rw [h1, hh _ (by omega) (by omega), Nat.add_assoc]
      · show nv b (k + 1 + j) + BB ^ (k + 1 + j) * b (k + 1 + j) = _
        rw [h2, Nat.add_assoc]
  obtain ⟨H, h1, h2⟩ := step (n - (k + 1)) (by omega)
  rw [show k + 1 + (n - (k + 1)) = n by omega] at h1 h2
  have ht := top_lt (s := a k) (t := b k) (nv_lt (ha.mono (show k ≤ n by omega))) (nv_lt (hb.mono (show k ≤ n by omega)))
  have e1 : nv a (k + 1) = nv a k + BB ^ k * a k := rfl
  have e2 : nv b (k + 1) = nv b k + BB ^ k * b k := rfl
  rw [← e1, ← e2] at ht
  rw [← hx, ← hy, h1, h2]
  constructor
  · intro h
    rcases Nat.lt_trichotomy (a k) (b k) with e | e | e
    · exact e
    · exact absurd e hne
    · exact absurd (by omega) (ht.2.2 e)
  · intro h
    have := ht.1 h
    omega
set_option maxHeartbeats 4000000 in
theorem below_ok (x y : Nat) (hx : (digs x).length ≤ 1048576) : FnOK Tryz.prog false 130 [.c (dsC (digs x)), .c (dsC (digs y))] (.c (.bool (decide (x < y)))) := by
  have hdl : (digs x).length < (digs y).length → x < y := fun h => Nat.lt_of_lt_of_le (lt_digs x) (Nat.le_trans (Nat.pow_le_pow_right (by decide) (by omega)) (digs_pow (k := (digs y).length - 1) (by omega)))
  have hdg : (digs y).length < (digs x).length → y < x := fun h => Nat.lt_of_lt_of_le (lt_digs y) (Nat.le_trans (Nat.pow_le_pow_right (by decide) (by omega)) (digs_pow (k := (digs x).length - 1) (by omega)))
  have ct := fun k (hl : (digs x).length = (digs y).length) => cmp_top (x := x) (y := y) (k := k) (ld_ok (digs_ok x) (digs x).length) (ld_ok (digs_ok y) (digs x).length) (nv_digs x) (by rw [hl]; exact nv_digs y)
  have ce : (digs x).length = (digs y).length → (∀ i, 0 ≤ i → i < (digs x).length → ld (digs x) i = ld (digs y) i) → x = y := fun hl h => by
    rw [← nv_digs x, ← nv_digs y, ← hl]
    exact nv_congr fun i hi => h i (Nat.zero_le _) hi
  show FnOK Tryz.prog false 130 [.c (dn (digs x).length (ld (digs x))), .c (dn (digs y).length (ld (digs y)))] (.c (.bool (decide (x < y))))
  have oa := ld_ok (digs_ok x)
  have ob := ld_ok (digs_ok y)
  generalize ld (digs x) = a at *
  generalize ld (digs y) = b at *
  generalize (digs x).length = n at *
  generalize (digs y).length = m at *
  refine fn_ok (E := E0) E0_ok Tryz.func130 rfl mixed (by kernel_rfl) (by kernel_rfl) ?_
  conv => whnf
  refine bcase (fun (h1 : (!decide ((n : Int) = m)) = true) => ?_) fun (h1 : (!decide ((n : Int) = m)) = false) => ?_
  · have h1' : n ≠ m := fun e => by subst e; simp at h1
    conv => whnf
    refine ⟨rfl, sub_bool (decide_eq_decide.2 ⟨fun h => hdl (by omega), fun h => ?_⟩)⟩
    have h : x < y := h
    rcases Nat.lt_or_ge m n with e | e
    · exact absurd (hdg e) (by omega)
    · omega
  have h1' : n = m := by
    have : (n : Int) = m := by simpa using h1
    omega
  subst h1'
  have ct := fun k => ct k rfl
  have ce := ce rfl
  clear hdl hdg
  conv => whnf
  refine ⟨i64 (by omega) (by omega), ?_⟩
  conv => whnf
  refine loop_ints (fun k : Nat => gst [(0, .c (dn n a)), (1, .c (dn n b)), (5, .c (.int .i64 ((k : Int) - 1)))] []) (fun k => k) (fun k => k ≤ n ∧ ∀ i, k ≤ i → i < n → a i = b i) n rfl ?_ ⟨Nat.le_refl _, fun i h1 h2 => by omega⟩ fun k ⟨hk, hh⟩ => ?_
  · exact Weak.gen [] rfl trivial ⟨.inl ⟨_, _, rfl, rfl, fun _ _ _ _ => rfl⟩, .inl ⟨_, _, rfl, rfl, fun _ _ _ _ => rfl⟩, ⟨_, rfl, rfl⟩, trivial⟩
  have hct := ct (k - 1)
  clear ct
  conv => whnf
  refine bcase (fun (h2 : decide ((0 : Int) ≤ (k : Int) - 1) = true) => ?_) fun (h2 : decide ((0 : Int) ≤ (k : Int) - 1) = false) => ?_
  · have h2' := of_decide_eq_true h2
    obtain ⟨j, rfl⟩ : ∃ j, k = j + 1 := ⟨k - 1, by omega⟩
    rw [Nat.add_sub_cancel] at hct
    have ej : (((j + 1 : Nat) : Int) - 1).toNat = j := by omega
    conv => whnf
    refine ⟨by omega, by omega, ?_⟩
    conv => whnf
    refine ⟨by omega, by omega, ?_⟩
    conv => whnf
    refine bcase (fun (h3 : (!decide ((a (((j + 1 : Nat) : Int) - 1).toNat : Int) = (b (((j + 1 : Nat) : Int) - 1).toNat : Int))) = true) => ?_) fun (h3 : (!decide ((a (((j + 1 : Nat) : Int) - 1).toNat : Int) = (b (((j + 1 : Nat) : Int) - 1).toNat : Int))) = false) => ?_
    · rw [ej] at h3
      have h3' : a j ≠ b j := fun e => by rw [e] at h3; simp at h3
      have hr := hct (by omega) (fun i h1 h2 => hh i (by omega) h2) h3'
      conv => whnf
      refine ⟨by omega, by omega, ?_⟩
      conv => whnf
      refine ⟨by omega, by omega, ?_⟩
      conv => whnf
      refine ⟨rfl, sub_bool (decide_eq_decide.2 ?_)⟩
      show (a (((j + 1 : Nat) : Int) - 1).toNat : Int) < (b (((j + 1 : Nat) : Int) - 1).toNat : Int) ↔ x < y
      rw [ej, hr]
      omega
    · rw [ej] at h3
      have h3' : a j = b j := by
        have : (a j : Int) = b j := by simpa using h3
        omega
      conv => whnf
      refine ⟨i64 (by omega) (by omega), ?_⟩
      conv => whnf
      exact ⟨j, by omega, Weak.gen [] rfl trivial ⟨.inl ⟨_, _, rfl, rfl, fun _ _ _ _ => rfl⟩, .inl ⟨_, _, rfl, rfl, fun _ _ _ _ => rfl⟩, ⟨_, rfl, by omega⟩, trivial⟩, by omega, fun i h1 h2 => if e : i = j then by rw [e]; exact h3' else hh i (by omega) h2⟩
  · have h2' := of_decide_eq_false h2
    obtain rfl : k = 0 := by omega
    have hxy := ce hh
    conv => whnf
    exact ⟨rfl, sub_bool (by subst hxy; simp)⟩
set_option maxHeartbeats 4000000 in
theorem same_ok {n m : Nat} {a b : Nat → Nat} {s s' r : Bool} (hn : n ≤ 1048576) (hr : r = true ↔ s = s' ∧ n = m ∧ ∀ i, i < n → a i = b i) : FnOK Tryz.prog false 126 [bn s n a, bn s' m b] (.c (.bool r)) := by
  refine fn_ok (E := E0) E0_ok Tryz.func126 rfl mixed (by kernel_rfl) (by kernel_rfl) ?_
  conv => whnf
  refine bcase (fun (h : gw false (!(s == s')) = true) => ?_) fun (h : gw false (!(s == s')) = false) => ?_
  · have hs : s = s' := by have := gwf h; simpa using this
    conv => whnf
    refine bcase (fun (h1 : (!decide ((n : Int) = m)) = true) => ?_) fun (h1 : (!decide ((n : Int) = m)) = false) => ?_
    · have h1' : r = false := Bool.eq_false_iff.2 fun e => by have := (hr.1 e).2.1; subst this; simp at h1
      conv => whnf
      exact ⟨rfl, sub_bool h1'.symm⟩
    have h1' : n = m := by
      have : (n : Int) = m := by simpa using h1
      omega
    subst h1'
    conv => whnf
    refine loop_ints (fun i : Nat => gst [(2, .c (.p 0 0 2 0 0)), (3, .c (.p 1 0 2 0 0)), (5, .c (.int .i64 i))] [gi s n a, gi s' n b]) (fun i => n - i) (fun i => i ≤ n ∧ ∀ j, j < i → a j = b j) 0 rfl ?_ ⟨Nat.zero_le _, fun j h => by omega⟩ fun i ⟨hi, hh⟩ => ?_
    · exact Weak.gen [some 0, some 1] rfl ⟨boxK rfl rfl, boxK rfl rfl, trivial⟩ ⟨⟨_, rfl, rfl, rfl⟩, ⟨_, rfl, rfl, rfl⟩, ⟨_, rfl, rfl⟩, trivial⟩
    have hr' : r = false ∨ a i = b i ∨ ¬ i < n := by
      by_cases c : i < n
      · by_cases c' : a i = b i
        · exact .inr (.inl c')
        · exact .inl (Bool.eq_false_iff.2 fun e => c' ((hr.1 e).2.2 i c))
      · exact .inr (.inr c)
    conv => whnf
    refine bcase (fun (h2 : decide ((i : Int) < n) = true) => ?_) fun (h2 : decide ((i : Int) < n) = false) => ?_
    · have h2' := of_decide_eq_true h2
      conv => whnf
      refine ⟨by omega, by omega, ?_⟩
      conv => whnf
      refine ⟨by omega, by omega, ?_⟩
      conv => whnf
      refine bcase (fun (h3 : (!decide ((a i : Int) = (b i : Int))) = true) => ?_) fun (h3 : (!decide ((a i : Int) = (b i : Int))) = false) => ?_
      · have h3' : r = false := by
          refine Bool.eq_false_iff.2 fun e => ?_
          have := (hr.1 e).2.2 i (by omega)
          rw [this] at h3; simp at h3
        conv => whnf
        exact ⟨rfl, sub_bool h3'.symm⟩
      · have h3' : a i = b i := by
          have : (a i : Int) = b i := by simpa using h3
          omega
        conv => whnf
        refine ⟨i64 (by omega) (by omega), ?_⟩
        conv => whnf
        exact ⟨i + 1, by omega, Weak.gen [some 0, some 1] rfl ⟨boxK rfl rfl, boxK rfl rfl, trivial⟩ ⟨⟨_, rfl, rfl, rfl⟩, ⟨_, rfl, rfl, rfl⟩, ⟨_, rfl, by omega⟩, trivial⟩, by omega, fun j hj => if e : j = i then by rw [e]; exact h3' else hh j (by omega)⟩
    · have h2' := of_decide_eq_false h2
      have h3' : r = true := hr.2 ⟨hs, rfl, fun j hj => hh j (by omega)⟩
      conv => whnf
      exact ⟨rfl, sub_bool h3'.symm⟩
  · have hs : s ≠ s' := by
      have := gwf' h
      intro e; subst e; simp at this
    have h1' : r = false := Bool.eq_false_iff.2 fun e => hs (hr.1 e).1
    conv => whnf
    exact ⟨rfl, sub_bool h1'.symm⟩
end Rf
end Go.Proofs.YtigciplaoikcfaaGreat
/- The document's Bits, Add and Sub. -/
namespace Go.Proofs.YtigciplaoikcfaaGreat
open Go.RowKit
namespace Rf
/-- The number of binary digits. -/
def lb (x : Nat) : Nat := if x = 0 then 0 else Nat.log2 x + 1
theorem lb_half {x : Nat} (h : 0 < x) : lb x = lb (x / 2) + 1 := by
  unfold lb
  rw [if_neg (by omega), Nat.log2_def]
  by_cases c : 2 ≤ x
  · rw [if_pos c, if_neg (by omega)]
  · rw [if_neg c, if_pos (by omega)]
theorem lb_lt (x : Nat) : x < 2 ^ lb x := by
  unfold lb
  split
  · subst x; decide
  · exact Nat.lt_log2_self
theorem lb_ge {x : Nat} (h : x ≠ 0) : 2 ^ (lb x - 1) ≤ x := by
  unfold lb
  rw [if_neg h, Nat.add_sub_cancel]
  exact Nat.log2_self_le h
theorem lb_unique {x m : Nat} (h1 : 2 ^ m ≤ x) (h2 : x < 2 ^ (m + 1)) : lb x = m + 1 := by
  have h0 : x ≠ 0 := by have := Nat.pow_pos (n := m) (show 0 < 2 by decide); omega
  unfold lb
  rw [if_neg h0]
  have := (Nat.le_log2 h0 (k := m)).2 h1
  have := (Nat.log2_lt h0 (k := m + 1)).2 h2
  omega
theorem BB_two (k : Nat) : BB ^ k = 2 ^ (32 * k) := by rw [Nat.pow_mul]
theorem lb_top {d : Nat → Nat} {k : Nat} (hd : DOk (k + 1) d) (h : d k ≠ 0) : lb (nv d (k + 1)) = 32 * k + lb (d k) := by
  obtain ⟨m, hm⟩ : ∃ m, lb (d k) = m + 1 := ⟨lb (d k) - 1, by unfold lb; rw [if_neg h]; omega⟩
  have h1 := lb_lt (d k)
  have h2 := lb_ge h
  rw [hm] at h1 h2 ⊢
  have h3 := nv_lt (hd.mono (Nat.le_succ k))
  have e : nv d (k + 1) = nv d k + BB ^ k * d k := rfl
  refine lb_unique (m := 32 * k + m) ?_ ?_
  · rw [Nat.pow_add, ← BB_two, e]
    have := Nat.mul_le_mul_left (BB ^ k) h2
    rw [Nat.add_sub_cancel] at this
    omega
  · rw [Nat.add_assoc, Nat.pow_add, ← BB_two, e]
    have := Nat.mul_le_mul_left (BB ^ k) (show d k + 1 ≤ 2 ^ (m + 1) by omega)
    rw [Nat.mul_add] at this
    omega
theorem lb_le {x k : Nat} (h : x < 2 ^ k) : lb x ≤ k := by
  by_cases h0 : x = 0
  · subst h0; exact Nat.zero_le _
  · unfold lb
    rw [if_neg h0]
    have := (Nat.log2_lt h0 (k := k)).2 h
    omega
set_option maxHeartbeats 4000000 in
theorem rbits_ok {n : Nat} {a : Nat → Nat} {s : Bool} (hd : DOk n a) (hn : n ≤ 1048576) : FnOK Tryz.prog false 167 [bn s n a] (.c (.int .i64 (lb (nv a n) : Nat))) := by
  have ht := rtrim_ok hd hn
  have h0 := @digs_zero (nv a n)
  have hl : (digs (nv a n)).length ≤ n := digs_lt (nv_lt hd)
  have hb : ∀ k, (digs (nv a n)).length = k + 1 → lb (nv a n) = 32 * k + lb (ld (digs (nv a n)) k) := fun k hk => by
    have := lb_top (ld_ok (digs_ok (nv a n)) (k + 1)) (digs_top hk)
    rwa [← hk, nv_digs] at this
  have hlt : ∀ k, ld (digs (nv a n)) k < 4294967296 := fun k => ld_ok (digs_ok _) (k + 1) k (Nat.lt_succ_self k)
  have hs : ∀ x : Nat, Int.tdiv (x : Int) 2 = (x / 2 : Nat) := fun x => by rw [Int.tdiv_eq_ediv_of_nonneg (by omega)]; omega
  generalize nv a n = x at *
  refine fn_ok (E := E0) E0_ok Tryz.func167 rfl mixed (by kernel_rfl) (by kernel_rfl) ?_
  conv => whnf
  refine ⟨_, ht, ?_⟩
  conv => whnf
  refine bcase (fun (h1 : decide (((digs x).length : Int) = 0) = true) => ?_) fun (h1 : decide (((digs x).length : Int) = 0) = false) => ?_
  · have h1 := of_decide_eq_true h1
    have hx : x = 0 := h0.1 (by omega)
    conv => whnf
    exact ⟨rfl, sub_int (by subst hx; rfl)⟩
  · have h1 := of_decide_eq_false h1
    obtain ⟨k, hk⟩ : ∃ k, (digs x).length = k + 1 := ⟨(digs x).length - 1, by omega⟩
    have hbk := hb k hk
    have hlk := hlt k
    have hT : lb x ≤ 33554432 := by have := lb_le (k := 32) hlk; omega
    have ek : (((digs x).length : Int) - 1).toNat = k := by omega
    conv => whnf
    refine ⟨i64 (by omega) (by omega), ?_⟩
    conv => whnf
    refine ⟨i64 (by omega) (by omega), ?_⟩
    conv => whnf
    refine ⟨i64 (by omega) (by omega), ?_⟩
    conv => whnf
    refine ⟨by omega, by omega, ?_⟩
    conv => whnf
    refine loop_ints (fun ((c, y) : Nat × Nat) => gst [(4, .c (.int .i64 c)), (5, .c (.int .u32 (y : Nat)))] []) (fun (_, y) => y) (fun (c, y) => c + lb y = lb x ∧ y < 4294967296) (32 * k, ld (digs x) k) rfl ?_ ⟨hbk.symm, hlk⟩ ?_
    · exact Weak.gen [] rfl trivial ⟨⟨_, rfl, by omega⟩, ⟨_, rfl, by rw [ek]⟩, trivial⟩
    rintro ⟨c, y⟩ ⟨h2, h3⟩
    have h2 : c + lb y = lb x := h2
    have h3 : y < 4294967296 := h3
    have h5 := @lb_half y
    have h6 := hs y
    conv => whnf
    refine bcase (fun (h7 : decide ((0 : Int) < y) = true) => ?_) fun (h7 : decide ((0 : Int) < y) = false) => ?_
    · have h7 := of_decide_eq_true h7
      have h5 := h5 (by omega)
      conv => whnf
      refine ⟨i64 (by omega) (by omega), ?_⟩
      conv => whnf
      refine ⟨by omega, ⟨by rw [h6]; omega, by rw [h6]; omega⟩, ?_⟩
      conv => whnf
      exact ⟨(c + 1, y / 2), by show y / 2 < y; omega, Weak.gen [] rfl trivial ⟨⟨_, rfl, by omega⟩, ⟨_, rfl, h6⟩, trivial⟩, by show c + 1 + lb (y / 2) = lb x; omega, by show y / 2 < 4294967296; omega⟩
    · have h7 := of_decide_eq_false h7
      have hy : y = 0 := by omega
      have : lb y = 0 := by subst hy; rfl
      conv => whnf
      exact ⟨rfl, sub_int (by omega)⟩
theorem dg_full {x q : Nat} (h : x < BB ^ q) : nv (dg x) q = x := by rw [nv_dg, Nat.mod_eq_of_lt h]
/-- Signed digits of a known number. -/
theorem sg_ok {x q : Nat} (s : Bool) (h : x < BB ^ q) (hq : q ≤ 1048576) : FnOK Tryz.prog false 108 [.c (.bool s), .c (dn q (dg x))] (.g (nz (sgn s x))) := by
  have := rsigned_ok (s := s) (dg_ok x q) hq
  rwa [dg_full h] at this
theorem sum_lt {x y n m : Nat} (hx : x < BB ^ n) (hy : y < BB ^ m) : x + y < BB ^ (max n m + 1) := by
  have h1 : BB ^ n ≤ BB ^ max n m := Nat.pow_le_pow_right (by decide) (by omega)
  have h2 : BB ^ m ≤ BB ^ max n m := Nat.pow_le_pow_right (by decide) (by omega)
  rw [Nat.pow_succ]
  generalize BB ^ max n m = P at *
  show _ < P * 4294967296
  omega
theorem plus_nz (x y : Nat) (hx : (digs x).length ≤ 1048575) (hy : (digs y).length ≤ 1048575) : FnOK Tryz.prog false 129 [.c (dsC (digs x)), .c (dsC (digs y))] (.c (dn (max (digs x).length (digs y).length + 1) (dg (x + y)))) := by
  have := plus_ok (ld_ok (digs_ok x) (digs x).length) (ld_ok (digs_ok y) (digs y).length) (by omega) (by omega)
  rwa [nv_digs, nv_digs] at this
theorem minus_nz (x y : Nat) (hx : (digs x).length ≤ 1048575) (hle : y ≤ x) : FnOK Tryz.prog false 131 [.c (dsC (digs x)), .c (dsC (digs y))] (.c (dn (digs x).length (dg (x - y)))) := by
  have := minus_ok (ld_ok (digs_ok x) (digs x).length) (ld_ok (digs_ok y) (digs y).length) (by omega) (digs_le hle) (by rw [nv_digs, nv_digs]; exact hle)
  rwa [nv_digs, nv_digs] at this
set_option maxHeartbeats 4000000 in
theorem zadd_ok {a b : RawZ} (ha : wr a) (hb : wr b) (h1 : zlen a.val ≤ 1048575) (h2 : zlen b.val ≤ 1048575) : FnOK Tryz.prog false 86 [.g (zr a), .g (zr b)] (.g (nz (a.val + b.val))) := by
  have hA := znorm_ok ha
  have hB := znorm_ok hb
  generalize a.val = x at *
  generalize b.val = y at *
  have hP := plus_nz x.natAbs y.natAbs h1 h2
  have hPs := fun s => sg_ok s (sum_lt (lt_digs x.natAbs) (lt_digs y.natAbs)) (by have h1 : (digs x.natAbs).length ≤ 1048575 := h1; have h2 : (digs y.natAbs).length ≤ 1048575 := h2; omega)
  have hL := below_ok x.natAbs y.natAbs (Nat.le_succ_of_le h1)
  have hM := fun h => minus_nz y.natAbs x.natAbs h2 h
  have hM' := fun h => minus_nz x.natAbs y.natAbs h1 h
  have hMs := fun s => sg_ok (x := y.natAbs - x.natAbs) s (Nat.lt_of_le_of_lt (Nat.sub_le _ _) (lt_digs y.natAbs)) (Nat.le_succ_of_le h2)
  have hMs' := fun s => sg_ok (x := x.natAbs - y.natAbs) s (Nat.lt_of_le_of_lt (Nat.sub_le _ _) (lt_digs x.natAbs)) (Nat.le_succ_of_le h1)
  have e1 : decide (x < 0) = decide (y < 0) → sgn (decide (x < 0)) (x.natAbs + y.natAbs) = x + y := fun h => by
    unfold sgn
    by_cases c : x < 0 <;> by_cases c' : y < 0 <;> simp [c, c'] at h ⊢ <;> omega
  have e2 : decide (x < 0) ≠ decide (y < 0) → x.natAbs < y.natAbs → sgn (decide (y < 0)) (y.natAbs - x.natAbs) = x + y := fun h h' => by
    unfold sgn
    by_cases c : x < 0 <;> by_cases c' : y < 0 <;> simp [c, c'] at h ⊢ <;> omega
  have e3 : decide (x < 0) ≠ decide (y < 0) → ¬ x.natAbs < y.natAbs → sgn (decide (x < 0)) (x.natAbs - y.natAbs) = x + y := fun h h' => by
    unfold sgn
    by_cases c : x < 0 <;> by_cases c' : y < 0 <;> simp [c, c'] at h ⊢ <;> omega
  refine fn_ok (E := E0) E0_ok Tryz.func86 rfl mixed (by kernel_rfl) (by kernel_rfl) ?_
  conv => whnf
  refine ⟨_, hA, ?_⟩
  conv => whnf
  refine ⟨_, hB, ?_⟩
  conv => whnf
  refine bcase (fun (h : (decide (x < 0) == decide (y < 0)) = true) => ?_) fun (h : (decide (x < 0) == decide (y < 0)) = false) => ?_
  · have e1 := e1 (by simpa using h)
    have hPs := hPs (decide (x < 0))
    rw [e1] at hPs
    conv => whnf
    refine ⟨_, hP, ?_⟩
    conv => whnf
    refine ⟨_, hPs, ?_⟩
    conv => whnf
    exact ⟨rfl, Sub.refl _⟩
  · have hne : decide (x < 0) ≠ decide (y < 0) := by simpa using h
    have e2 := e2 hne
    have e3 := e3 hne
    have hMs := hMs (decide (y < 0))
    have hMs' := hMs' (decide (x < 0))
    conv => whnf
    refine ⟨_, hL, ?_⟩
    conv => whnf
    refine bcase (fun (h : decide (x.natAbs < y.natAbs) = true) => ?_) fun (h : decide (x.natAbs < y.natAbs) = false) => ?_
    · have h := of_decide_eq_true h
      have hM := hM (Nat.le_of_lt h)
      rw [e2 h] at hMs
      conv => whnf
      refine ⟨_, hM, ?_⟩
      conv => whnf
      refine ⟨_, hMs, ?_⟩
      conv => whnf
      exact ⟨rfl, Sub.refl _⟩
    · have h := of_decide_eq_false h
      have hM' := hM' (Nat.le_of_not_lt h)
      rw [e3 h] at hMs'
      conv => whnf
      refine ⟨_, hM', ?_⟩
      conv => whnf
      refine ⟨_, hMs', ?_⟩
      conv => whnf
      exact ⟨rfl, Sub.refl _⟩
theorem wr_nz {x : Int} (h : zlen x ≤ 1048576) : wr (ofZ x) := ⟨ofZ_ok x, h⟩
theorem wr_len {a : RawZ} (h : wr a) : zlen a.val ≤ a.ds.length := by
  show (digs a.val.natAbs).length ≤ _
  rw [← nv_raw, sgn_abs]
  exact digs_lt (nv_lt (ld_ok h.1 _))
set_option maxHeartbeats 4000000 in
theorem zsub_ok {a b : RawZ} (ha : wr a) (hb : wr b) (h1 : zlen a.val ≤ 1048575) (h2 : zlen b.val ≤ 1048575) : FnOK Tryz.prog false 141 [.g (zr a), .g (zr b)] (.g (nz (a.val - b.val))) := by
  have hN := zneg_ok hb
  have hA := zadd_ok (a := a) (b := ofZ (-b.val)) ha (wr_nz (by rw [zlen_neg]; omega)) h1 (by rw [ofZ_val, zlen_neg]; exact h2)
  rw [ofZ_val, ← Int.sub_eq_add_neg] at hA
  refine fn_ok (E := E0) E0_ok Tryz.func141 rfl mixed (by kernel_rfl) (by kernel_rfl) ?_
  conv => whnf
  refine ⟨_, hN, ?_⟩
  conv => whnf
  refine ⟨_, hA, ?_⟩
  conv => whnf
  exact ⟨rfl, Sub.refl _⟩
end Rf
end Go.Proofs.YtigciplaoikcfaaGreat
/- The document's word, split and shifted. -/
namespace Go.Proofs.YtigciplaoikcfaaGreat
open Go.RowKit
namespace Rf
theorem word_step {a : Nat → Nat} {n k : Nat} (ha : DOk n a) (hk : k < n) : nv a n / BB ^ k = nv a n / BB ^ (k + 1) * BB + a k := by
  rw [Nat.pow_succ, ← Nat.div_div_eq_div_mul]
  have h1 : nv a n / BB ^ k % BB = a k := dg_nv ha hk
  have h2 := Nat.div_add_mod (nv a n / BB ^ k) BB
  rw [h1, Nat.mul_comm] at h2
  exact h2.symm
theorem shl32 {x : Nat} (h : x < 4294967296) : IntKind.u64.wrap ((x : Int) * 2 ^ 32) = ((x * 4294967296 : Nat) : Int) := by
  rw [show ((x : Int) * 2 ^ 32) = ((x * 4294967296 : Nat) : Int) by omega]
  exact w64 (by omega) (by omega)
set_option maxHeartbeats 4000000 in
theorem word_ok {n : Nat} {a : Nat → Nat} (ha : DOk n a) (hn : n ≤ 2) : FnOK Tryz.prog false 150 [.c (dn n a)] (.c (.int .u64 (nv a n : Nat))) := by
  obtain ⟨W, hW⟩ : ∃ W : Nat → Nat, W = fun k => nv a n / BB ^ k := ⟨_, rfl⟩
  have W0 : W 0 = nv a n := by rw [hW]; simp
  have Wn : W n = 0 := by rw [hW]; exact Nat.div_eq_of_lt (nv_lt ha)
  have Ws : ∀ k, k < n → W k = W (k + 1) * 4294967296 + a k := fun k hk => by rw [hW]; exact word_step ha hk
  have Wl : ∀ k, 0 < k → k ≤ n → W k < 4294967296 := fun k h0 hk => by
    rw [hW]
    refine (Nat.div_lt_iff_lt_mul (BB_pos k)).2 (Nat.lt_of_lt_of_le (nv_lt ha) ?_)
    have : BB * BB ^ k = BB ^ (k + 1) := by rw [Nat.pow_succ, Nat.mul_comm]
    show _ ≤ BB * BB ^ k
    rw [this]
    exact Nat.pow_le_pow_right (by decide) (by omega)
  have hlt : ∀ k, k < n → a k < 4294967296 := ha
  clear hW
  rw [← W0]
  refine fn_ok (E := E0) E0_ok Tryz.func150 rfl mixed (by kernel_rfl) (by kernel_rfl) ?_
  conv => whnf
  refine ⟨i64 (by omega) (by omega), ?_⟩
  conv => whnf
  refine loop_ints (fun k : Nat => gst [(0, .c (dn n a)), (3, .c (.int .u64 (W k : Nat))), (4, .c (.int .i64 ((k : Int) - 1)))] []) (fun k => k) (fun k => k ≤ n) n rfl ?_ (Nat.le_refl _) fun k hk => ?_
  · exact Weak.gen [] rfl trivial ⟨.inl ⟨_, _, rfl, rfl, fun _ _ _ _ => rfl⟩, ⟨_, rfl, by rw [Wn]; rfl⟩, ⟨_, rfl, rfl⟩, trivial⟩
  conv => whnf
  refine bcase (fun (h2 : decide ((0 : Int) ≤ (k : Int) - 1) = true) => ?_) fun (h2 : decide ((0 : Int) ≤ (k : Int) - 1) = false) => ?_
  · have h2' := of_decide_eq_true h2
    obtain ⟨j, rfl⟩ : ∃ j, k = j + 1 := ⟨k - 1, by omega⟩
    have ej : (((j + 1 : Nat) : Int) - 1).toNat = j := by omega
    have h3 := Wl (j + 1) (by omega) hk
    have h4 := Ws j (by omega)
    have h5 := hlt j (by omega)
    conv => whnf
    refine ⟨by omega, ?_⟩
    conv => whnf
    refine ⟨by omega, by omega, ?_⟩
    conv => whnf
    refine ⟨i64 (by omega) (by omega), ?_⟩
    conv => whnf
    refine ⟨j, by omega, Weak.gen [] rfl trivial ⟨.inl ⟨_, _, rfl, rfl, fun _ _ _ _ => rfl⟩, ⟨_, rfl, ?_⟩, ⟨_, rfl, by omega⟩, trivial⟩, by omega⟩
    show IntKind.u64.wrap (IntKind.u64.wrap ((W (j + 1) : Int) * 2 ^ 32) + IntKind.u64.wrap (a (((j + 1 : Nat) : Int) - 1).toNat : Nat)) = (W j : Nat)
    rw [ej, shl32 h3, w64 (x := (a j : Nat)) (by omega) (by omega), w64 (by omega) (by omega)]
    omega
  · have h2' := of_decide_eq_false h2
    obtain rfl : k = 0 := by omega
    conv => whnf
    exact ⟨rfl, Sub.refl _⟩
set_option maxHeartbeats 4000000 in
theorem split_ok {x : Nat} (hx : x < 18446744073709551616) : FnOK Tryz.prog false 151 [.c (.int .u64 x)] (.c (dsC (digs x))) := by
  have hk := rtrim_ok (dg_ok x 2) (by omega)
  rw [dg_full (show x < BB ^ 2 from hx)] at hk
  have hk := arg_ok (args' := [.c (.row 1 2 fun i _ => if i = 0 then .int .u32 (IntKind.u32.wrap (x : Nat)) else .int .u32 (IntKind.u32.wrap (Int.fdiv (x : Nat) (2 ^ 32))))]) hk fun D w vs h => by
    match vs, h with
    | [v1], ⟨h1, _⟩ =>
      refine ⟨subRowG rfl (fun i j hi hj => ?_) D w v1 h1, trivial⟩
      match i, hi with
      | 0, _ => show Cell.int .u32 _ = .int .u32 _; rw [w32_lo]
      | 1, _ => show Cell.int .u32 _ = .int .u32 _; rw [w32_hi]
  refine fn_ok (E := E0) E0_ok Tryz.func151 rfl mixed (by kernel_rfl) (by kernel_rfl) ?_
  conv => whnf
  refine ⟨by omega, ?_⟩
  conv => whnf
  refine ⟨fun i j hi hj => ?_, ?_⟩
  · match i, j, hi, hj with
    | 0, 0, _, _ => rfl
    | 1, 0, _, _ => rfl
  conv => whnf
  refine ⟨_, arg_ok hk (fun D w vs h => ?_), ?_⟩
  · match vs, h with
    | [v1], ⟨h1, _⟩ =>
      refine ⟨subRowG rfl (fun i j hi hj => ?_) D w v1 h1, trivial⟩
      match i, j, hi, hj with
      | 0, 0, _, _ => rfl
      | 1, 0, _, _ => rfl
  conv => whnf
  exact ⟨rfl, Sub.refl _⟩
end Rf
end Go.Proofs.YtigciplaoikcfaaGreat
/- The document's shifted and divided. -/
namespace Go.Proofs.YtigciplaoikcfaaGreat
open Go.RowKit
namespace Rf
theorem two_split (s : Nat) : 2 ^ s = BB ^ (s / 32) * 2 ^ (s % 32) := by
  rw [BB_two, ← Nat.pow_add]
  congr 1
  omega
/-- The carry of a shift. -/
def sc (a : Nat → Nat) (r i : Nat) : Nat := 2 ^ r * nv a i / BB ^ i
theorem sc_lt {a : Nat → Nat} {r i : Nat} (h : DOk i a) : sc a r i < 2 ^ r := by
  unfold sc
  refine (Nat.div_lt_iff_lt_mul (BB_pos i)).2 ?_
  exact Nat.mul_lt_mul_of_pos_left (nv_lt h) (Nat.pow_pos (by decide))
theorem sc_part (a : Nat → Nat) (r i : Nat) : 2 ^ r * nv a (i + 1) / BB ^ i = a i * 2 ^ r + sc a r i := by
  have e : 2 ^ r * nv a (i + 1) = 2 ^ r * nv a i + BB ^ i * (a i * 2 ^ r) := by
    show 2 ^ r * (nv a i + BB ^ i * a i) = _
    rw [Nat.mul_add, Nat.mul_comm (a i), ← Nat.mul_assoc, ← Nat.mul_assoc, Nat.mul_comm (2 ^ r) (BB ^ i)]
  rw [e, part_div, Nat.add_comm]
  rfl
theorem sc_next (a : Nat → Nat) (r i : Nat) : sc a r (i + 1) = (a i * 2 ^ r + sc a r i) / BB := by
  rw [← sc_part]
  unfold sc
  rw [Nat.pow_succ, Nat.div_div_eq_div_mul]
theorem dg_shift (x w i : Nat) : dg (BB ^ w * x) (w + i) = dg x i := by
  unfold dg
  rw [Nat.pow_add, ← Nat.div_div_eq_div_mul, Nat.mul_div_cancel_left _ (BB_pos w)]
theorem dg_shift_low {x w i : Nat} (h : i < w) : dg (BB ^ w * x) i = 0 := by
  unfold dg
  rw [show BB ^ w = BB ^ i * (BB * BB ^ (w - i - 1)) by rw [← Nat.mul_assoc, ← Nat.pow_succ, ← Nat.pow_add]; congr 1; omega, Nat.mul_assoc, Nat.mul_div_cancel_left _ (BB_pos i), Nat.mul_assoc, Nat.mul_mod_right]
theorem sc_dig {a : Nat → Nat} {n r i : Nat} (ha : DOk n a) (hi : i < n) : dg (2 ^ r * nv a n) i = (a i * 2 ^ r + sc a r i) % BB := by
  rw [nv_hi ha (show i + 1 ≤ n by omega), Nat.mul_add, ← Nat.mul_assoc, Nat.mul_comm (2 ^ r) (BB ^ (i + 1)), Nat.mul_assoc, dg_hi, sc_part]
theorem sc_top {a : Nat → Nat} {n r : Nat} (ha : DOk n a) (hr : r < 32) : dg (2 ^ r * nv a n) n = sc a r n := by
  unfold dg
  exact Nat.mod_eq_of_lt (Nat.lt_trans (sc_lt ha) (Nat.lt_of_lt_of_le (Nat.pow_lt_pow_right (by decide) hr) (by decide)))
theorem pow32 {r : Nat} (hr : r < 32) : 2 ^ r ≤ 2147483648 := Nat.pow_le_pow_right (n := 2) (by decide) (show r ≤ 31 by omega)
theorem shl_eq {x r : Nat} {R : Int} (hx : x < 4294967296) (hr : r < 32) (hR : R = (r : Nat)) : IntKind.u64.wrap (IntKind.u64.wrap (x : Nat) * 2 ^ min (Int.toNat R) 64) = ((x * 2 ^ r : Nat) : Int) ∧ x * 2 ^ r ≤ 9223372034707292160 := by
  have h1 := Nat.mul_le_mul (show x ≤ 4294967295 by omega) (pow32 hr)
  refine ⟨?_, h1⟩
  subst hR
  rw [w64 (x := (x : Nat)) (by omega) (by omega), show min (Int.toNat (r : Nat)) 64 = r by omega, show ((x : Nat) : Int) * 2 ^ r = ((x * 2 ^ r : Nat) : Int) by rw [Int.natCast_mul, Int.natCast_pow]; rfl]
  exact w64 (by omega) (by omega)
set_option maxHeartbeats 8000000 in
theorem shifted_ok {n s : Nat} {a : Nat → Nat} (ha : DOk n a) (hn : n ≤ 524287) (hs : s ≤ 16777216) : FnOK Tryz.prog false 168 [.c (dn n a), .c (.int .i64 s)] (.c (dsC (digs (nv a n * 2 ^ s)))) := by
  obtain ⟨w, hw⟩ : ∃ w, w = s / 32 := ⟨_, rfl⟩
  obtain ⟨r, hr⟩ : ∃ r, r = s % 32 := ⟨_, rfl⟩
  have hr32 : r < 32 := by omega
  have hp := pow32 hr32
  have hw2 : w ≤ 524288 := by omega
  have eX : nv a n * 2 ^ s = BB ^ w * (2 ^ r * nv a n) := by rw [two_split, ← hw, ← hr, Nat.mul_comm, Nat.mul_assoc]
  rw [eX]
  have dl : ∀ i, i < w → dg (BB ^ w * (2 ^ r * nv a n)) i = 0 := fun i h => dg_shift_low h
  have dm : ∀ i, i < n → dg (BB ^ w * (2 ^ r * nv a n)) (w + i) = (a i * 2 ^ r + sc a r i) % 4294967296 := fun i h => by rw [dg_shift, sc_dig ha h]
  have dt : dg (BB ^ w * (2 ^ r * nv a n)) (w + n) = sc a r n := by rw [dg_shift, sc_top ha hr32]
  have hlt : BB ^ w * (2 ^ r * nv a n) < BB ^ (w + n + 1) := by
    rw [Nat.add_assoc, Nat.pow_add]
    refine Nat.mul_lt_mul_of_pos_left ?_ (BB_pos w)
    rw [Nat.pow_succ, Nat.mul_comm]
    refine Nat.lt_of_lt_of_le (Nat.mul_lt_mul_of_pos_right (nv_lt ha) (Nat.pow_pos (by decide))) (Nat.mul_le_mul_left _ ?_)
    exact Nat.le_trans hp (by decide)
  have hT := rtrim_ok (dg_ok (BB ^ w * (2 ^ r * nv a n)) (w + n + 1)) (by omega)
  rw [dg_full hlt] at hT
  have scl : ∀ i, i ≤ n → sc a r i < 2 ^ r := fun i hi => sc_lt (ha.mono hi)
  have scn := sc_next a r
  have sc0 : sc a r 0 = 0 := by simp [sc, nv]
  have ao : ∀ i, i < n → a i < 4294967296 := ha
  have q1 : Int.tdiv (s : Int) 32 = (w : Nat) := by rw [Int.tdiv_eq_ediv_of_nonneg (by omega)]; omega
  have q2 : Int.tmod (s : Int) 32 = (r : Nat) := by rw [Int.tmod_eq_emod_of_nonneg (by omega)]; omega
  have e0 : IntKind.u64.wrap ((s : Int).tmod 32) = (r : Nat) := by rw [q2]; exact w64 (by omega) (by omega)
  generalize sc a r = c at *
  generalize BB ^ w * (2 ^ r * nv a n) = X at *
  refine fn_ok (E := E0) E0_ok Tryz.func168 rfl mixed (by kernel_rfl) (by kernel_rfl) ?_
  conv => whnf
  refine ⟨by omega, ⟨by rw [q1]; omega, by rw [q1]; omega⟩, ?_⟩
  conv => whnf
  refine ⟨by rw [q1]; omega, Int.le_refl _, by rw [q1]; omega, by show (4 : Int) * Int.tdiv (s : Int) 32 ≤ 281474976710656; rw [q1]; omega, ?_⟩
  conv => whnf
  refine loop_ints (fun i : Nat => gst [(0, .c (dn n a)), (1, .c (.int .i64 s)), (5, .c (.gs 0 0)), (6, .c (.int .u64 (c i : Nat))), (7, .c (.int .i64 i))] [gd (w + i) (dg X)]) (fun i => n - i) (fun i => i ≤ n) 0 rfl ?_ (Nat.zero_le _) fun i hi => ?_
  · refine Weak.gen [some 0] rfl ⟨⟨_, rfl, rfl, rfl, ?_, rfl, fun x y hx hy => ⟨_, ?_, rfl⟩⟩, trivial⟩ ⟨.inl ⟨_, _, rfl, rfl, fun _ _ _ _ => rfl⟩, ⟨_, rfl, rfl⟩, ⟨_, rfl, rfl, rfl⟩, ⟨_, rfl, by rw [sc0]; rfl⟩, ⟨_, rfl, rfl⟩, trivial⟩
    · show Int.toNat (Int.tdiv (s : Int) 32) = w + 0
      rw [q1]; omega
    · rw [dl x hx]
      obtain rfl := Nat.lt_one_iff.1 hy
      rfl
  have h3 := scl i hi
  have h4 := scn i
  have h5 := ao i
  have h6 := dm i
  conv => whnf
  refine bcase (fun (h1 : decide ((i : Int) < n) = true) => ?_) fun (h1 : decide ((i : Int) < n) = false) => ?_
  · have h1' := of_decide_eq_true h1
    have h5 := h5 (by omega)
    have h6 := h6 (by omega)
    obtain ⟨eS, hS⟩ := shl_eq h5 hr32 e0
    conv => whnf
    refine ⟨by omega, by omega, ?_⟩
    conv => whnf
    refine ⟨by omega, ?_⟩
    conv => whnf
    refine ⟨by rw [e0]; omega, ?_⟩
    conv => whnf
    refine ⟨by show w + i + 1 ≤ 16777216; omega, fun x y hx hy => ?_, ?_⟩
    · conv at hx => rhs; whnf
      conv at hy => rhs; whnf
      refine ⟨one_row hx hy ?_, fun h => nomatch h⟩
      conv => lhs; whnf
    conv => whnf
    refine ⟨by omega, ?_⟩
    conv => whnf
    refine ⟨i64 (by omega) (by omega), ?_⟩
    conv => whnf
    refine ⟨i + 1, by omega, Weak.gen [some 0] rfl ⟨⟨_, rfl, rfl, rfl, rfl, rfl, fun j k hj hk => ⟨_, appN hj (Nat.le_refl _) hk ?_, rfl⟩⟩, trivial⟩ ⟨.inl ⟨_, _, rfl, rfl, fun _ _ _ _ => rfl⟩, ⟨_, rfl, rfl⟩, ⟨_, rfl, rfl, rfl⟩, ⟨_, rfl, ?_⟩, ⟨_, rfl, by omega⟩, trivial⟩, by omega⟩
    · show IntKind.u32.wrap (IntKind.u64.wrap (IntKind.u64.wrap (IntKind.u64.wrap (a i : Nat) * 2 ^ min (Int.toNat (IntKind.u64.wrap ((s : Int).tmod 32))) 64) + (c i : Int))) = (dg X (w + i) : Nat)
      rw [eS, w64 (by omega) (by omega), ← Int.natCast_add, w32, h6]
    · show Int.fdiv (IntKind.u64.wrap (IntKind.u64.wrap (IntKind.u64.wrap (a i : Nat) * 2 ^ min (Int.toNat (IntKind.u64.wrap ((s : Int).tmod 32))) 64) + (c i : Int))) (2 ^ 32) = (c (i + 1) : Nat)
      rw [eS, w64 (by omega) (by omega), ← Int.natCast_add, sh32, h4]
  · have h1' := of_decide_eq_false h1
    obtain rfl : i = n := by omega
    conv => whnf
    refine ⟨by show w + i + 1 ≤ 16777216; omega, fun x y hx hy => ?_, ?_⟩
    · conv at hx => rhs; whnf
      conv at hy => rhs; whnf
      refine ⟨one_row hx hy ?_, fun h => nomatch h⟩
      conv => lhs; whnf
    conv => whnf
    refine ⟨fun x y _ _ => appF_clos (fun _ _ => rfl) (fun _ _ => rowF_clos rfl) x y, ?_⟩
    conv => whnf
    refine ⟨_, arg_ok hT (fun D w' vs h => ?_), ?_⟩
    · match vs, h with
      | [v1], ⟨h1, _⟩ =>
        refine ⟨subRowG rfl (fun x y hx hy => appN hx (Nat.le_refl _) hy ?_) D w' v1 h1, trivial⟩
        show IntKind.u32.wrap (c i : Nat) = (dg X (w + i) : Nat)
        rw [w32, dt, Nat.mod_eq_of_lt (show c i < 4294967296 by omega)]
    conv => whnf
    exact ⟨rfl, Sub.refl _⟩
end Rf
end Go.Proofs.YtigciplaoikcfaaGreat
