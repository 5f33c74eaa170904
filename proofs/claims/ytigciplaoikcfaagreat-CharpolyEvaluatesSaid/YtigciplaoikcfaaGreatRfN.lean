/- The document's fractions in normal form: sign, comparison, product, sum; combinations of lists. -/
import Derived.Test.YtigciplaoikcfaaGreatRfM
import Derived.Test.YtigciplaoikcfaaGreatNfO
namespace Go.Proofs.YtigciplaoikcfaaGreat
open Go.RowKit
namespace Rf
theorem lenZ {x : Rat} {L : Nat} (h : qlen x ≤ L) : zlen x.num ≤ L ∧ zlen (x.den : Int) ≤ L := by
  have h : max (zlen x.num) (zlen (x.den : Int)) ≤ L := h
  omega
theorem wq_n {x : Rat} (h : qlen x ≤ 524286) : wq (ofR x) := by
  have h1 := lenZ h
  refine ⟨⟨wr_nz (by omega), wr_nz (by omega)⟩, ?_, ?_⟩
  · show zlen (ofZ x.num).val ≤ _
    rw [ofZ_val]; exact h1.1
  · show zlen (ofZ (x.den : Int)).val ≤ _
    rw [ofZ_val]; exact h1.2
theorem rqnorm_n {x : Rat} (h : qlen x ≤ 524286) : FnOK Tryz.prog false 42 [.g (nq x)] (.g (nq x)) := by
  have := rqnormal_ok (wq_n h)
  rwa [ofR_val] at this
set_option maxHeartbeats 4000000 in
theorem rqsign_n {x : Rat} (h : qlen x ≤ 524286) : FnOK Tryz.prog false 43 [.g (nq x)] (.c (.int .i64 x.num.sign)) := by
  have h1 := lenZ h
  have s1 := zsign_ok (a := ofZ x.num) (wr_nz (by omega))
  have s2 := zsign_ok (a := ofZ (x.den : Int)) (wr_nz (by omega))
  rw [ofZ_val] at s1 s2
  have e : x.num.sign * (x.den : Int).sign = x.num.sign := by
    have := x.den_pos
    rw [Int.sign_eq_one_of_pos (show (0 : Int) < (x.den : Int) by omega), Int.mul_one]
  refine fn_ok (E := E0) E0_ok Tryz.func43 rfl mixed (by kernel_rfl) (by kernel_rfl) ?_
  conv => whnf
  refine ⟨_, s1, ?_⟩
  conv => whnf
  refine ⟨_, s2, ?_⟩
  conv => whnf
  refine ⟨sign_range _ _, ?_⟩
  conv => whnf
  exact ⟨rfl, Sub.int e⟩
theorem zmul_n {a b : Int} (h : zlen a + zlen b ≤ 1048576) : FnOK Tryz.prog false 87 [.g (nz a), .g (nz b)] (.g (nz (a * b))) := by
  have := rmulz_ok (a := ofZ a) (b := ofZ b) (wr_nz (by omega)) (wr_nz (by omega)) (by rw [ofZ_val, ofZ_val]; exact h)
  rwa [ofZ_val, ofZ_val] at this
theorem over_n {a b : Int} {x : Rat} (hx : ratio a b = x) (h1 : zlen a ≤ 524286) (h2 : zlen b ≤ 524286) : FnOK Tryz.prog false 85 [.g (nz a), .g (nz b)] (.g (nq x)) := by
  have := rover_ok (a := ofZ a) (b := ofZ b) (wr_nz (by omega)) (wr_nz (by omega)) (by rw [ofZ_val]; exact h1) (by rw [ofZ_val]; exact h2)
  rw [ofZ_val, ofZ_val, hx] at this
  exact this
set_option maxHeartbeats 4000000 in
theorem rqmul_n {x y : Rat} (hx : qlen x ≤ 65535) (hy : qlen y ≤ 65535) : FnOK Tryz.prog false 37 [.g (nq x), .g (nq y)] (.g (nq (x * y))) := by
  have h1 := lenZ hx
  have h2 := lenZ hy
  have m1 := zmul_n (a := x.num) (b := y.num) (by omega)
  have m2 := zmul_n (a := (x.den : Int)) (b := (y.den : Int)) (by omega)
  have l1 := zlen_mul x.num y.num
  have l2 := zlen_mul (x.den : Int) (y.den : Int)
  have o := over_n (x := x * y) (a := x.num * y.num) (b := (x.den : Int) * (y.den : Int)) (by rw [← ratio_mul, ratio_num_den, ratio_num_den]) (by omega) (by omega)
  refine fn_ok (E := E0) E0_ok Tryz.func37 rfl mixed (by kernel_rfl) (by kernel_rfl) ?_
  conv => whnf
  refine ⟨_, m1, ?_⟩
  conv => whnf
  refine ⟨_, m2, ?_⟩
  conv => whnf
  refine ⟨_, o, ?_⟩
  conv => whnf
  exact ⟨rfl, Sub.refl _⟩
set_option maxHeartbeats 4000000 in
theorem rqadd_n {x y : Rat} (hx : qlen x ≤ 131070) (hy : qlen y ≤ 131070) : FnOK Tryz.prog false 36 [.g (nq x), .g (nq y)] (.g (nq (x + y))) := by
  have h1 := lenZ hx
  have h2 := lenZ hy
  have n1 := rqnorm_n (x := x) (by omega)
  have n2 := rqnorm_n (x := y) (by omega)
  have m1 := zmul_n (a := x.num) (b := (y.den : Int)) (by omega)
  have m2 := zmul_n (a := y.num) (b := (x.den : Int)) (by omega)
  have m3 := zmul_n (a := (x.den : Int)) (b := (y.den : Int)) (by omega)
  have l1 := zlen_mul x.num (y.den : Int)
  have l2 := zlen_mul y.num (x.den : Int)
  have l3 := zlen_mul (x.den : Int) (y.den : Int)
  have l4 := zlen_add (x.num * (y.den : Int)) (y.num * (x.den : Int))
  have a1 := zadd_ok (a := ofZ (x.num * (y.den : Int))) (b := ofZ (y.num * (x.den : Int))) (wr_nz (by omega)) (wr_nz (by omega)) (by rw [ofZ_val]; omega) (by rw [ofZ_val]; omega)
  rw [ofZ_val, ofZ_val] at a1
  have d1 := x.den_pos
  have d2 := y.den_pos
  have o := over_n (x := x + y) (a := x.num * (y.den : Int) + y.num * (x.den : Int)) (b := (x.den : Int) * (y.den : Int)) (by rw [← ratio_add (by omega) (by omega), ratio_num_den, ratio_num_den]) (by omega) (by omega)
  refine fn_ok (E := E0) E0_ok Tryz.func36 rfl mixed (by kernel_rfl) (by kernel_rfl) ?_
  conv => whnf
  refine ⟨_, n1, ?_⟩
  conv => whnf
  refine ⟨_, n2, ?_⟩
  conv => whnf
  refine ⟨_, m1, ?_⟩
  conv => whnf
  refine ⟨_, m2, ?_⟩
  conv => whnf
  refine ⟨_, a1, ?_⟩
  conv => whnf
  refine ⟨_, m3, ?_⟩
  conv => whnf
  refine ⟨_, o, ?_⟩
  conv => whnf
  exact ⟨rfl, Sub.refl _⟩
end Rf
end Go.Proofs.YtigciplaoikcfaaGreat
/- The document's lists of fractions: zeros, combinations. -/
namespace Go.Proofs.YtigciplaoikcfaaGreat
open Go.RowKit
namespace Rf
theorem rqof_zero : FnOK Tryz.prog false 35 [.c (.int .i64 0)] (.g (nq 0)) := by
  have h := rqof_ok (n := 0) (by decide) (by decide)
  rwa [show ((0 : Int) : Rat) = 0 from rfl] at h
theorem app_sameq (v : Nat → Rat) (i j : Nat) : (if j = i then nq (v i) else nq (v j)) = nq (v j) := app_same (fun i => nq (v i)) i j
theorem one_nq {bl : List Blk} (x : Rat) (r : Bool) (i j : Nat) (hi : i < 1) (hj : j < 4) : St.one bl (rowF 4 (nq x) i j) = true ∧ (r = true → (rowF 4 (nq x) i j).noU = true) := by
  match i, j, hi, hj with
  | 0, 0, _, _ => exact ⟨rfl, fun _ => rfl⟩
  | 0, 1, _, _ => exact ⟨rfl, fun _ => rfl⟩
  | 0, 2, _, _ => exact ⟨rfl, fun _ => rfl⟩
  | 0, 3, _, _ => exact ⟨rfl, fun _ => rfl⟩
set_option maxHeartbeats 4000000 in
theorem rzeros_ok {n : Nat} (hn : n ≤ 1024) : FnOK Tryz.prog false 38 [.c (.int .i64 n)] (.c (nql n fun _ => 0)) := by
  have h0 := rqof_zero
  refine fn_ok (E := E0) E0_ok Tryz.func38 rfl mixed (by kernel_rfl) (by kernel_rfl) ?_
  conv => whnf
  refine loop_ints (fun i : Nat => gst [(0, .c (.int .i64 n)), (3, .c (.gs 0 0)), (4, .c (.int .i64 i))] [gqr i fun _ => ofR 0]) (fun i => n - i) (fun i => i ≤ n) 0 rfl (Weak.gen [none] rfl ⟨rfl, trivial⟩ ⟨⟨_, rfl, rfl⟩, rfl, ⟨_, rfl, rfl⟩, trivial⟩) (Nat.zero_le _) fun i hi => ?_
  conv => whnf
  refine bcase (fun (h : decide ((i : Int) < n) = true) => ?_) fun (h : decide ((i : Int) < n) = false) => ?_
  · have h := of_decide_eq_true h
    conv => whnf
    refine ⟨_, h0, ?_⟩
    conv => whnf
    refine ⟨by show i + 1 ≤ 16777216; omega, fun a b ha hb => one_nq 0 _ a b ha hb, ?_⟩
    conv => whnf
    refine ⟨i64 (by omega) (by omega), ?_⟩
    conv => whnf
    refine ⟨i + 1, by omega, Weak.gen [some 0] rfl ⟨⟨_, rfl, rfl, rfl, rfl, rfl, fun a b ha hb => regE ?_ (ql_clos (c := fun _ => ofR 0) a b)⟩, trivial⟩ ⟨⟨_, rfl, rfl⟩, ⟨_, rfl, rfl, rfl⟩, ⟨_, rfl, rfl⟩, trivial⟩, by omega⟩
    exact appG (sz := 4) (g := fun _ => nq 0) (g' := fun _ => nq 0) (l := nq 0) (app_sameq (fun _ => 0) i a) (Nat.le_refl (i + 1)) ha
  · have h := of_decide_eq_false h
    have e : i = n := by omega
    conv => whnf
    refine ⟨fun a b _ _ => ql_clos (c := fun _ => ofR 0) a b, ?_⟩
    conv => whnf
    exact ⟨rfl, subRowG e fun _ _ _ _ => rfl⟩
set_option maxHeartbeats 8000000 in
theorem rcomb_ok {n : Nat} {X Y : Nat → Rat} {c : Rat} (hn : n ≤ 1024) (hX : ∀ i, i < n → qlen (X i) ≤ 65535) (hY : ∀ i, i < n → qlen (Y i) ≤ 65535) (hc : qlen c ≤ 65535) : FnOK Tryz.prog false 88 [.c (nql n X), .g (nq c), .c (nql n Y)] (.c (nql n fun i => X i + c * Y i)) := by
  have s0 := rqsign_n (x := c) (by omega)
  have s1 : ∀ i, i < n → FnOK Tryz.prog false 43 [.g (nq (Y i))] (.c (.int .i64 (Y i).num.sign)) := fun i hi => rqsign_n (by have := hY i hi; omega)
  have n1 : ∀ i, i < n → c * Y i = 0 → FnOK Tryz.prog false 42 [.g (nq (X i))] (.g (nq (X i + c * Y i))) := fun i hi e => by
    rw [e, Rat.add_zero]
    exact rqnorm_n (by have := hX i hi; omega)
  have m1 : ∀ i, i < n → FnOK Tryz.prog false 37 [.g (nq c), .g (nq (Y i))] (.g (nq (c * Y i))) := fun i hi => rqmul_n hc (hY i hi)
  have a1 : ∀ i, i < n → FnOK Tryz.prog false 36 [.g (nq (X i)), .g (nq (c * Y i))] (.g (nq (X i + c * Y i))) := fun i hi => rqadd_n (Nat.le_trans (hX i hi) (by decide)) (qlen_mul hc (hY i hi) (by decide))
  have z0 : c.num.sign = 0 → ∀ i, c * Y i = 0 := fun e i => by rw [Rat.num_eq_zero.1 (Int.sign_eq_zero_iff_zero.1 e), Rat.zero_mul]
  have z1 : ∀ i, (Y i).num.sign = 0 → c * Y i = 0 := fun i e => by rw [Rat.num_eq_zero.1 (Int.sign_eq_zero_iff_zero.1 e), Rat.mul_zero]
  obtain ⟨Z, hZ⟩ : ∃ Z : Nat → Rat, Z = fun i => X i + c * Y i := ⟨_, rfl⟩
  have n1 : ∀ i, i < n → c * Y i = 0 → FnOK Tryz.prog false 42 [.g (nq (X i))] (.g (nq (Z i))) := by rw [hZ]; exact n1
  have a1 : ∀ i, i < n → FnOK Tryz.prog false 36 [.g (nq (X i)), .g (nq (c * Y i))] (.g (nq (Z i))) := by rw [hZ]; exact a1
  rw [← hZ]
  clear hZ hX hY hc
  refine fn_ok (E := E0) E0_ok Tryz.func88 rfl mixed (by kernel_rfl) (by kernel_rfl) ?_
  conv => whnf
  refine ⟨_, s0, ?_⟩
  conv => whnf
  refine loop_ints (fun i : Nat => gst [(0, .c (nql n X)), (2, .c (nql n Y)), (4, .c (.p 0 0 4 0 0)), (7, .c (.gs 1 0)), (8, .c (.bool (decide (c.num.sign = 0)))), (9, .c (.int .i64 i))] [⟨63, 4, 1, boxF (nq c)⟩, gqr i fun k => ofR (Z k)]) (fun i => n - i) (fun i => i ≤ n) 0 rfl (Weak.gen [some 0, none] rfl ⟨boxK rfl rfl, rfl, trivial⟩ ⟨.inl ⟨_, _, rfl, rfl, fun _ _ _ _ => rfl⟩, .inl ⟨_, _, rfl, rfl, fun _ _ _ _ => rfl⟩, ⟨_, rfl, rfl, rfl⟩, rfl, ⟨_, rfl, rfl⟩, ⟨_, rfl, rfl⟩, trivial⟩) (Nat.zero_le _) fun i hi => ?_
  have s1 := s1 i
  have n1 := n1 i
  have m1 := m1 i
  have a1 := a1 i
  have z1 := z1 i
  conv => whnf
  refine bcase (fun (h : decide ((i : Int) < n) = true) => ?_) fun (h : decide ((i : Int) < n) = false) => ?_
  · have h := of_decide_eq_true h
    have s1 := s1 (by omega)
    have n1 := n1 (by omega)
    have m1 := m1 (by omega)
    have a1 := a1 (by omega)
    conv => whnf
    refine bcase (fun (k : gw false (decide (c.num.sign = 0)) = true) => ?_) fun (k : gw false (decide (c.num.sign = 0)) = false) => ?_
    · conv => whnf
      refine ⟨by omega, by omega, ?_⟩
      conv => whnf
      refine ⟨_, s1, ?_⟩
      conv => whnf
      refine bcase (fun (k2 : decide ((Y i).num.sign = 0) = true) => ?_) fun (k2 : decide ((Y i).num.sign = 0) = false) => ?_
      · have n1 := n1 (z1 (of_decide_eq_true k2))
        conv => whnf
        refine ⟨by omega, by omega, ?_⟩
        conv => whnf
        refine ⟨_, n1, ?_⟩
        conv => whnf
        refine ⟨by show i + 1 ≤ 16777216; omega, fun a b ha hb => one_nq (Z i) _ a b ha hb, ?_⟩
        conv => whnf
        refine ⟨i64 (by omega) (by omega), ?_⟩
        conv => whnf
        refine ⟨i + 1, by omega, Weak.gen [some 0, some 1] rfl ⟨boxK rfl rfl, ⟨_, rfl, rfl, rfl, rfl, rfl, fun a b ha hb => regE ?_ (ql_clos (c := fun k => ofR (Z k)) a b)⟩, trivial⟩ ⟨.inl ⟨_, _, rfl, rfl, fun _ _ _ _ => rfl⟩, .inl ⟨_, _, rfl, rfl, fun _ _ _ _ => rfl⟩, ⟨_, rfl, rfl, rfl⟩, ⟨_, rfl, rfl, rfl⟩, ⟨_, rfl, rfl⟩, ⟨_, rfl, rfl⟩, trivial⟩, by omega⟩
        exact appG (sz := 4) (g := fun k => nq (Z k)) (g' := fun k => nq (Z k)) (l := nq (Z i)) (app_sameq Z i a) (Nat.le_refl (i + 1)) ha
      · conv => whnf
        refine ⟨by omega, by omega, ?_⟩
        conv => whnf
        refine ⟨by omega, by omega, ?_⟩
        conv => whnf
        refine ⟨_, m1, ?_⟩
        conv => whnf
        refine ⟨_, a1, ?_⟩
        conv => whnf
        refine .inr ⟨rfl, ?_⟩
        conv => whnf
        refine ⟨by show i + 1 ≤ 16777216; omega, fun a b ha hb => one_nq (Z i) _ a b ha hb, ?_⟩
        conv => whnf
        refine ⟨i64 (by omega) (by omega), ?_⟩
        conv => whnf
        refine ⟨i + 1, by omega, Weak.gen [some 0, some 1] rfl ⟨boxK rfl rfl, ⟨_, rfl, rfl, rfl, rfl, rfl, fun a b ha hb => regE ?_ (ql_clos (c := fun k => ofR (Z k)) a b)⟩, trivial⟩ ⟨.inl ⟨_, _, rfl, rfl, fun _ _ _ _ => rfl⟩, .inl ⟨_, _, rfl, rfl, fun _ _ _ _ => rfl⟩, ⟨_, rfl, rfl, rfl⟩, ⟨_, rfl, rfl, rfl⟩, ⟨_, rfl, rfl⟩, ⟨_, rfl, rfl⟩, trivial⟩, by omega⟩
        exact appG (sz := 4) (g := fun k => nq (Z k)) (g' := fun k => nq (Z k)) (l := nq (Z i)) (app_sameq Z i a) (Nat.le_refl (i + 1)) ha
    · have n1 := n1 (z0 (of_decide_eq_true (gwf' k)) i)
      conv => whnf
      refine ⟨by omega, by omega, ?_⟩
      conv => whnf
      refine ⟨_, n1, ?_⟩
      conv => whnf
      refine ⟨by show i + 1 ≤ 16777216; omega, fun a b ha hb => one_nq (Z i) _ a b ha hb, ?_⟩
      conv => whnf
      refine ⟨i64 (by omega) (by omega), ?_⟩
      conv => whnf
      refine ⟨i + 1, by omega, Weak.gen [some 0, some 1] rfl ⟨boxK rfl rfl, ⟨_, rfl, rfl, rfl, rfl, rfl, fun a b ha hb => regE ?_ (ql_clos (c := fun k => ofR (Z k)) a b)⟩, trivial⟩ ⟨.inl ⟨_, _, rfl, rfl, fun _ _ _ _ => rfl⟩, .inl ⟨_, _, rfl, rfl, fun _ _ _ _ => rfl⟩, ⟨_, rfl, rfl, rfl⟩, ⟨_, rfl, rfl, rfl⟩, ⟨_, rfl, rfl⟩, ⟨_, rfl, rfl⟩, trivial⟩, by omega⟩
      exact appG (sz := 4) (g := fun k => nq (Z k)) (g' := fun k => nq (Z k)) (l := nq (Z i)) (app_sameq Z i a) (Nat.le_refl (i + 1)) ha
  · have h := of_decide_eq_false h
    have e : i = n := by omega
    conv => whnf
    refine ⟨fun a b _ _ => ql_clos (c := fun k => ofR (Z k)) a b, ?_⟩
    conv => whnf
    exact ⟨rfl, subRowG e fun _ _ _ _ => rfl⟩
end Rf
end Go.Proofs.YtigciplaoikcfaaGreat
/- The document's matrices: rows. -/
namespace Go.Proofs.YtigciplaoikcfaaGreat
open Go.RowKit
/-- A matrix in normal form, as its fields stand; its rows. -/
abbrev matL (n m : Nat) (G : Nat → Nat → Rat) : List Cell := [.int .i64 n, .int .i64 m, .row 4 (n * m) (qlF fun k => ofR (G (k / m) (k % m)))]
/-- A matrix as its fields stand. -/
abbrev rmat (n m : Nat) (q : Nat → RawR) : List Cell := [.int .i64 n, .int .i64 m, ql (n * m) q]
namespace Rf
abbrev rowsC (n m : Nat) (G : Nat → Nat → Rat) : Cell := .row 1 n fun i _ => nql m (G i)
/-- A list of lists is longer by one. -/
theorem regApp {q : Nat} {bl : List Blk} {ks : List (Option Nat)} {i a b : Nat} {f : Nat → Nat → Cell} {c : Cell} {t : Nat → Cell} (ha : a < i + 1) (hb : b < 1) (hold : a < i → regC q bl ks (t a) fun z => f a b = z) (hnew : regC q bl ks (t i) fun z => c = z) : regC q bl ks (t a) fun z => appF i f (rowF 1 [c]) a b = z := by
  obtain rfl := Nat.lt_one_iff.1 hb
  by_cases h : a < i
  · rw [show appF i f (rowF 1 [c]) a 0 = f a 0 from if_pos h]
    exact hold h
  · obtain rfl : a = i := by omega
    rw [show appF a f (rowF 1 [c]) a 0 = c from by unfold appF; rw [if_neg h, Nat.sub_self]; rfl]
    exact hnew
theorem mat_idx {n m i j : Nat} (hi : i < n) (hj : j < m) : i * m + j < n * m ∧ (i * m + j) / m = i ∧ (i * m + j) % m = j := by
  have h1 : (i + 1) * m ≤ n * m := Nat.mul_le_mul_right _ hi
  rw [Nat.add_mul] at h1
  refine ⟨by omega, ?_, ?_⟩
  · rw [Nat.mul_comm, Nat.mul_add_div (by omega), Nat.div_eq_of_lt hj, Nat.add_zero]
  · rw [Nat.mul_comm, Nat.mul_add_mod, Nat.mod_eq_of_lt hj]
set_option maxHeartbeats 8000000 in
theorem rowsR_ok {n m : Nat} {q : Nat → RawR} {G : Nat → Nat → Rat} (hn : n ≤ 64) (hm : m ≤ 64) (h : ∀ k, k < n * m → wq (q k)) (hG : ∀ i j, i < n → j < m → (q (i * m + j)).val = G i j) : FnOK Tryz.prog false 44 [.g (rmat n m q)] (.c (rowsC n m G)) := by
  have hnm : ∀ i, i ≤ n → (i : Int) * (m : Int) = ((i * m : Nat) : Int) ∧ i * m ≤ 4096 := fun i hi => ⟨by rw [Int.natCast_mul], Nat.le_trans (Nat.mul_le_mul (show i ≤ 64 by omega) hm) (by decide)⟩
  have n1 : ∀ i j, i < n → j < m → FnOK Tryz.prog false 42 [.g (rr (q ((i : Int) * (m : Int) + (j : Int)).toNat))] (.g (nq (G i j))) := fun i j hi hj => by
    have e1 := (hnm i (by omega)).1
    rw [show ((i : Int) * (m : Int) + (j : Int)).toNat = i * m + j by rw [e1]; omega, ← hG i j hi hj]
    exact rqnormal_ok (h _ (mat_idx hi hj).1)
  clear hG
  clear h
  refine fn_ok (E := E0) E0_ok Tryz.func44 rfl mixed (by kernel_rfl) (by kernel_rfl) ?_
  conv => whnf
  refine loop_ints (fun i : Nat => gst [(1, .c (.p 0 0 3 0 0)), (3, .c (.gs 1 0)), (4, .c (.int .i64 i))] [⟨25, 3, 1, boxF (rmat n m q)⟩, ⟨22, 1, i, fun k _ => nql m (G k)⟩]) (fun i => n - i) (fun i => i ≤ n) 0 rfl (Weak.gen [some 0, none] rfl ⟨boxK rfl rfl, rfl, trivial⟩ ⟨⟨_, rfl, rfl, rfl⟩, rfl, ⟨_, rfl, rfl⟩, trivial⟩) (Nat.zero_le _) fun i hi => ?_
  have n1 := n1 i
  obtain ⟨e1, e2⟩ := hnm i hi
  have e3 := fun (a : i < n) (j : Nat) (b : j < m) => (mat_idx a b).1
  conv => whnf
  refine bcase (fun (h : decide ((i : Int) < n) = true) => ?_) fun (h : decide ((i : Int) < n) = false) => ?_
  · have h := of_decide_eq_true h
    have n1 := fun j => n1 j (by omega)
    have e3 := e3 (by omega)
    conv => whnf
    refine loop_ints (fun j : Nat => gst [(1, .c (.p 0 0 3 0 0)), (3, .c (.gs 1 0)), (4, .c (.int .i64 i)), (5, .c (.gs 2 0)), (6, .c (.int .i64 j))] [⟨25, 3, 1, boxF (rmat n m q)⟩, ⟨22, 1, i, fun k _ => nql m (G k)⟩, gqr j fun k => ofR (G i k)]) (fun j => m - j) (fun j => j ≤ m) 0 rfl (Weak.gen [some 0, some 1, none] rfl ⟨boxK rfl rfl, ⟨_, rfl, rfl, rfl, rfl, rfl, fun a b ha hb => regE rfl rfl⟩, rfl, trivial⟩ ⟨⟨_, rfl, rfl, rfl⟩, ⟨_, rfl, rfl, rfl⟩, ⟨_, rfl, rfl⟩, rfl, ⟨_, rfl, rfl⟩, trivial⟩) (Nat.zero_le _) fun j hj => ?_
    have n1 := n1 j
    have e3 := e3 j
    conv => whnf
    refine bcase (fun (h1 : decide ((j : Int) < m) = true) => ?_) fun (h1 : decide ((j : Int) < m) = false) => ?_
    · have h1 := of_decide_eq_true h1
      have n1 := n1 (by omega)
      have e3 := e3 (by omega)
      conv => whnf
      refine ⟨i64 (by rw [e1]; omega) (by rw [e1]; omega), ?_⟩
      conv => whnf
      refine ⟨i64 (by rw [e1]; omega) (by rw [e1]; omega), ?_⟩
      conv => whnf
      refine ⟨by rw [e1]; omega, by show (i : Int) * (m : Int) + (j : Int) < ((n * m : Nat) : Int); rw [e1]; omega, ?_⟩
      conv => whnf
      refine ⟨_, n1, ?_⟩
      conv => whnf
      refine ⟨by show j + 1 ≤ 16777216; omega, fun a b ha hb => one_nq (G i j) _ a b ha hb, ?_⟩
      conv => whnf
      refine ⟨i64 (by omega) (by omega), ?_⟩
      conv => whnf
      refine ⟨j + 1, by omega, Weak.gen [some 0, some 1, some 2] rfl ⟨boxK rfl rfl, ⟨_, rfl, rfl, rfl, rfl, rfl, fun a b ha hb => regE rfl rfl⟩, ⟨_, rfl, rfl, rfl, rfl, rfl, fun a b ha hb => regE ?_ (ql_clos (c := fun k => ofR (G i k)) a b)⟩, trivial⟩ ⟨⟨_, rfl, rfl, rfl⟩, ⟨_, rfl, rfl, rfl⟩, ⟨_, rfl, rfl⟩, ⟨_, rfl, rfl, rfl⟩, ⟨_, rfl, rfl⟩, trivial⟩, by omega⟩
      exact appG (sz := 4) (g := fun k => nq (G i k)) (g' := fun k => nq (G i k)) (l := nq (G i j)) (app_sameq (G i) j a) (Nat.le_refl (j + 1)) ha
    · have h1 := of_decide_eq_false h1
      have ej : j = m := by omega
      conv => whnf
      refine ⟨by show i + 1 ≤ 16777216; omega, fun a b ha hb => ?_, ?_⟩
      · match a, b, ha, hb with
        | 0, 0, _, _ => exact ⟨rfl, fun h => by cases h⟩
      conv => whnf
      refine ⟨i64 (by omega) (by omega), ?_⟩
      conv => whnf
      refine ⟨i + 1, by omega, Weak.gen [some 0, some 1] rfl ⟨boxK rfl rfl, ⟨_, rfl, rfl, rfl, rfl, rfl, fun a b ha hb => ?_⟩, trivial⟩ ⟨⟨_, rfl, rfl, rfl⟩, ⟨_, rfl, rfl, rfl⟩, ⟨_, rfl, rfl⟩, trivial⟩, by omega⟩
      exact regApp (t := fun k => nql m (G k)) ha hb (fun _ => regE rfl rfl) (.inr (.inr ⟨2, _, rfl, rfl, rfl, rfl, Nat.zero_le _, rfl, ej, fun k l _ _ => ⟨rfl, ql_clos (c := fun k => ofR (G i k)) k l⟩⟩))
  · have h := of_decide_eq_false h
    have e : i = n := by omega
    conv => whnf
    refine ⟨fun a b _ _ => rfl, ?_⟩
    conv => whnf
    exact ⟨rfl, subRowG e fun _ _ _ _ => rfl⟩
theorem wq_mat {n m : Nat} {G : Nat → Nat → Rat} (h : ∀ i j, i < n → j < m → qlen (G i j) ≤ 524286) (k : Nat) (hk : k < n * m) : wq (ofR (G (k / m) (k % m))) := by
  have h0 : 0 < m := Nat.pos_of_ne_zero fun e => by rw [e, Nat.mul_zero] at hk; omega
  exact wq_n (h _ _ (Nat.div_lt_of_lt_mul (by rw [Nat.mul_comm]; exact hk)) (Nat.mod_lt _ h0))
theorem val_mat {n m : Nat} {G : Nat → Nat → Rat} (i j : Nat) (hi : i < n) (hj : j < m) : (ofR (G ((i * m + j) / m) ((i * m + j) % m))).val = G i j := by
  obtain ⟨_, e2, e3⟩ := mat_idx hi hj
  rw [ofR_val, e2, e3]
theorem rows_ok {n m : Nat} {G : Nat → Nat → Rat} (hn : n ≤ 64) (hm : m ≤ 64) (h : ∀ i j, i < n → j < m → qlen (G i j) ≤ 524286) : FnOK Tryz.prog false 44 [.g (matL n m G)] (.c (rowsC n m G)) :=
  rowsR_ok hn hm (wq_mat h) (val_mat (n := n))
end Rf
end Go.Proofs.YtigciplaoikcfaaGreat
/- The document's matrices: a list times a matrix; a matrix of rows; products. -/
namespace Go.Proofs.YtigciplaoikcfaaGreat
open Go.RowKit
namespace Rf
/-- A list times a matrix: the first i places. -/
abbrev sumR (x : Nat → Rat) (G : Nat → Nat → Rat) (i j : Nat) : Rat := Q.su (fun a => x a * G a j) i
set_option maxHeartbeats 8000000 in
theorem applyR_ok {k m : Nat} {x : Nat → Rat} {p : Nat → RawR} {G : Nat → Nat → Rat} (hk : k ≤ 64) (hm : m ≤ 64) (hx : ∀ i, i < k → qlen (x i) ≤ 65535) (hG : ∀ i j, i < k → j < m → qlen (G i j) ≤ 65535) (hS : ∀ i j, i ≤ k → j < m → qlen (sumR x G i j) ≤ 65535) (hw : ∀ i, i < k * m → wq (p i)) (hv : ∀ i j, i < k → j < m → (p (i * m + j)).val = G i j) : FnOK Tryz.prog false 45 [.c (nql k x), .g (rmat k m p)] (.c (nql m (sumR x G k))) := by
  have z0 := rzeros_ok (n := m) (by omega)
  have r0 := rowsR_ok (n := k) (m := m) (q := p) (G := G) hk hm hw hv
  have s0 : ∀ i, i < k → FnOK Tryz.prog false 43 [.g (nq (x i))] (.c (.int .i64 (x i).num.sign)) := fun i hi => rqsign_n (by have := hx i hi; omega)
  have c0 : ∀ i, i < k → FnOK Tryz.prog false 88 [.c (nql m (sumR x G i)), .g (nq (x i)), .c (nql m (G i))] (.c (nql m (sumR x G (i + 1)))) := fun i hi => rcomb_ok (by omega) (fun j hj => hS i j (by omega) hj) (fun j hj => hG i j hi hj) (hx i hi)
  have e0 : ∀ i, (x i).num.sign = 0 → ∀ j, sumR x G i j = sumR x G (i + 1) j := fun i e j => by
    show _ = sumR x G i j + x i * G i j
    rw [Rat.num_eq_zero.1 (Int.sign_eq_zero_iff_zero.1 e), Rat.zero_mul, Rat.add_zero]
  clear hx hG hS hw hv
  refine fn_ok (E := E0) E0_ok Tryz.func45 rfl mixed (by kernel_rfl) (by kernel_rfl) ?_
  conv => whnf
  refine ⟨_, z0, ?_⟩
  conv => whnf
  refine ⟨_, r0, ?_⟩
  conv => whnf
  refine loop_ints (fun i : Nat => gst [(0, .c (nql k x)), (5, .c (nql m (sumR x G i))), (6, .c (rowsC k m G)), (7, .c (.int .i64 i))] []) (fun i => k - i) (fun i => i ≤ k) 0 rfl (Weak.gen [] rfl trivial ⟨.inl ⟨_, _, rfl, rfl, fun _ _ _ _ => rfl⟩, .inl ⟨_, _, rfl, rfl, fun _ _ _ _ => rfl⟩, .inl ⟨_, _, rfl, rfl, fun _ _ _ _ => rfl⟩, ⟨_, rfl, rfl⟩, trivial⟩) (Nat.zero_le _) fun i hi => ?_
  have s0 := s0 i
  have c0 := c0 i
  have e0 := e0 i
  conv => whnf
  refine bcase (fun (h : decide ((i : Int) < k) = true) => ?_) fun (h : decide ((i : Int) < k) = false) => ?_
  · have h := of_decide_eq_true h
    have s0 := s0 (by omega)
    have c0 := c0 (by omega)
    conv => whnf
    refine ⟨by omega, by omega, ?_⟩
    conv => whnf
    refine ⟨_, s0, ?_⟩
    conv => whnf
    refine bcase (fun (h1 : (!decide ((x i).num.sign = 0)) = true) => ?_) fun (h1 : (!decide ((x i).num.sign = 0)) = false) => ?_
    · conv => whnf
      refine ⟨by omega, by omega, ?_⟩
      conv => whnf
      refine ⟨by omega, by omega, ?_⟩
      conv => whnf
      refine ⟨_, c0, ?_⟩
      conv => whnf
      refine ⟨i64 (by omega) (by omega), ?_⟩
      conv => whnf
      exact ⟨i + 1, by omega, Weak.gen [] rfl trivial ⟨.inl ⟨_, _, rfl, rfl, fun _ _ _ _ => rfl⟩, .inl ⟨_, _, rfl, rfl, fun _ _ _ _ => rfl⟩, .inl ⟨_, _, rfl, rfl, fun _ _ _ _ => rfl⟩, ⟨_, rfl, rfl⟩, trivial⟩, by omega⟩
    · have e0 := e0 (by simpa using h1)
      conv => whnf
      refine ⟨i64 (by omega) (by omega), ?_⟩
      conv => whnf
      exact ⟨i + 1, by omega, Weak.gen [] rfl trivial ⟨.inl ⟨_, _, rfl, rfl, fun _ _ _ _ => rfl⟩, .inl ⟨_, _, rfl, rfl, fun a b _ _ => qlF_eq (c := fun j => ofR (sumR x G i j)) (e := fun j => ofR (sumR x G (i + 1) j)) (i := a) (k := a) (congrArg ofR (e0 a))⟩, .inl ⟨_, _, rfl, rfl, fun _ _ _ _ => rfl⟩, ⟨_, rfl, rfl⟩, trivial⟩, by omega⟩
  · have h := of_decide_eq_false h
    have e : i = k := by omega
    have g : Sub (.c (nql m (sumR x G i))) (.c (nql m (sumR x G k))) := by rw [e]; exact Sub.refl _
    conv => whnf
    exact ⟨rfl, g⟩
theorem apply_ok {k m : Nat} {x : Nat → Rat} {G : Nat → Nat → Rat} (hk : k ≤ 64) (hm : m ≤ 64) (hx : ∀ i, i < k → qlen (x i) ≤ 65535) (hG : ∀ i j, i < k → j < m → qlen (G i j) ≤ 65535) (hS : ∀ i j, i ≤ k → j < m → qlen (sumR x G i j) ≤ 65535) : FnOK Tryz.prog false 45 [.c (nql k x), .g (matL k m G)] (.c (nql m (sumR x G k))) :=
  applyR_ok hk hm hx hG hS (wq_mat fun i j a b => by have := hG i j a b; omega) (val_mat (n := k))
theorem mat_next {n m i j : Nat} (G : Nat → Nat → Rat) (hj : j < m) (hi : i < n) : nq (G ((i * m + j) / m) ((i * m + j) % m)) = nq (G i j) := by
  obtain ⟨_, e2, e3⟩ := mat_idx hi hj
  rw [e2, e3]
set_option maxHeartbeats 8000000 in
theorem rof_mat {n m : Nat} {G : Nat → Nat → Rat} (hn : n ≤ 64) (hm : m ≤ 64) (h : ∀ i j, i < n → j < m → qlen (G i j) ≤ 524286) : FnOK Tryz.prog false 39 [.c (.int .i64 m), .c (rowsC n m G)] (.g (matL n m G)) := by
  have n1 : ∀ i j, i < n → j < m → FnOK Tryz.prog false 42 [.g (nq (G i j))] (.g (nq (G i j))) := fun i j hi hj => rqnorm_n (h i j hi hj)
  have hnm : ∀ i, i ≤ n → i * m ≤ 4096 := fun i hi => Nat.le_trans (Nat.mul_le_mul (show i ≤ 64 by omega) hm) (by decide)
  clear h
  refine fn_ok (E := E0) E0_ok Tryz.func39 rfl mixed (by kernel_rfl) (by kernel_rfl) ?_
  conv => whnf
  refine loop_ints (fun i : Nat => gst [(0, .c (.int .i64 m)), (1, .c (rowsC n m G)), (4, .c (.p 0 0 3 0 0)), (5, .c (.p 1 0 3 0 0)), (6, .c (.int .i64 i))] [⟨25, 3, 1, boxF [.int .i64 0, .int .i64 0, .nil]⟩, ⟨25, 3, 1, boxF [.int .i64 n, .int .i64 m, .gs 2 0]⟩, gqr (i * m) fun k => ofR (G (k / m) (k % m))]) (fun i => n - i) (fun i => i ≤ n) 0 rfl ?_ (Nat.zero_le _) fun i hi => ?_
  · refine Weak.gen [some 0, some 1, none] rfl ⟨boxK rfl rfl, ⟨_, rfl, rfl, rfl, rfl, rfl, fun a b ha hb => by
      obtain rfl := Nat.lt_one_iff.1 ha
      match b, hb with
      | 0, _ => exact ⟨_, rfl, rfl⟩
      | 1, _ => exact ⟨_, rfl, rfl⟩
      | 2, _ => exact rfl⟩, Nat.zero_mul m, trivial⟩ ⟨⟨_, rfl, rfl⟩, .inl ⟨_, _, rfl, rfl, fun _ _ _ _ => rfl⟩, ⟨_, rfl, rfl, rfl⟩, ⟨_, rfl, rfl, rfl⟩, ⟨_, rfl, rfl⟩, trivial⟩
  have n1 := n1 i
  have e1 := hnm i hi
  conv => whnf
  refine bcase (fun (h : decide ((i : Int) < n) = true) => ?_) fun (h : decide ((i : Int) < n) = false) => ?_
  · have h := of_decide_eq_true h
    have n1 := fun j => n1 j (by omega)
    have ap : ∀ j, j < m → ∀ a, (if a = i * m + j then nq (G i j) else nq (G (a / m) (a % m))) = nq (G (a / m) (a % m)) := fun j hj a => by
      split
      · rename_i e
        rw [e, mat_next G hj (show i < n by omega)]
      · rfl
    conv => whnf
    refine loop_ints (fun j : Nat => gst [(0, .c (.int .i64 m)), (1, .c (rowsC n m G)), (4, .c (.p 0 0 3 0 0)), (5, .c (.p 1 0 3 0 0)), (6, .c (.int .i64 i)), (7, .c (.int .i64 j))] [⟨25, 3, 1, boxF [.int .i64 0, .int .i64 0, .nil]⟩, ⟨25, 3, 1, boxF [.int .i64 n, .int .i64 m, .gs 2 0]⟩, gqr (i * m + j) fun k => ofR (G (k / m) (k % m))]) (fun j => m - j) (fun j => j ≤ m) 0 rfl (Weak.gen [some 0, some 1, some 2] rfl ⟨boxK rfl rfl, ⟨_, rfl, rfl, rfl, rfl, rfl, fun a b ha hb => by
      obtain rfl := Nat.lt_one_iff.1 ha
      match b, hb with
      | 0, _ => exact ⟨_, rfl, rfl⟩
      | 1, _ => exact ⟨_, rfl, rfl⟩
      | 2, _ => exact ⟨_, rfl, rfl, rfl⟩⟩, ⟨_, rfl, rfl, rfl, rfl, rfl, fun a b ha hb => regE rfl (ql_clos (c := fun k => ofR (G (k / m) (k % m))) a b)⟩, trivial⟩ ⟨⟨_, rfl, rfl⟩, .inl ⟨_, _, rfl, rfl, fun _ _ _ _ => rfl⟩, ⟨_, rfl, rfl, rfl⟩, ⟨_, rfl, rfl, rfl⟩, ⟨_, rfl, rfl⟩, ⟨_, rfl, rfl⟩, trivial⟩) (Nat.zero_le _) fun j hj => ?_
    have n1 := n1 j
    have ap := ap j
    conv => whnf
    refine bcase (fun (h1 : decide ((j : Int) < m) = true) => ?_) fun (h1 : decide ((j : Int) < m) = false) => ?_
    · have h1 := of_decide_eq_true h1
      have n1 := n1 (by omega)
      have ap := ap (by omega)
      conv => whnf
      refine ⟨by omega, by omega, ?_⟩
      conv => whnf
      refine ⟨by omega, by omega, ?_⟩
      conv => whnf
      refine ⟨_, n1, ?_⟩
      conv => whnf
      refine .inr ⟨rfl, ?_⟩
      conv => whnf
      refine ⟨by show i * m + j + 1 ≤ 16777216; omega, fun a b ha hb => one_nq (G i j) _ a b ha hb, ?_⟩
      conv => whnf
      refine ⟨i64 (by omega) (by omega), ?_⟩
      conv => whnf
      refine ⟨j + 1, by omega, Weak.gen [some 0, some 1, some 2] rfl ⟨boxK rfl rfl, ⟨_, rfl, rfl, rfl, rfl, rfl, fun a b ha hb => by
      obtain rfl := Nat.lt_one_iff.1 ha
      match b, hb with
      | 0, _ => exact ⟨_, rfl, rfl⟩
      | 1, _ => exact ⟨_, rfl, rfl⟩
      | 2, _ => exact ⟨_, rfl, rfl, rfl⟩⟩, ⟨_, rfl, rfl, rfl, rfl, rfl, fun a b ha hb => regE ?_ (ql_clos (c := fun k => ofR (G (k / m) (k % m))) a b)⟩, trivial⟩ ⟨⟨_, rfl, rfl⟩, .inl ⟨_, _, rfl, rfl, fun _ _ _ _ => rfl⟩, ⟨_, rfl, rfl, rfl⟩, ⟨_, rfl, rfl, rfl⟩, ⟨_, rfl, rfl⟩, ⟨_, rfl, rfl⟩, trivial⟩, by omega⟩
      exact appG (sz := 4) (g := fun k => nq (G (k / m) (k % m))) (g' := fun k => nq (G (k / m) (k % m))) (l := nq (G i j)) (ap a) (Nat.le_refl (i * m + j + 1)) ha
    · have h1 := of_decide_eq_false h1
      have ej : i * m + j = (i + 1) * m := by rw [Nat.succ_mul, show j = m by omega]
      conv => whnf
      refine ⟨i64 (by omega) (by omega), ?_⟩
      conv => whnf
      exact ⟨i + 1, by omega, Weak.gen [some 0, some 1, some 2] rfl ⟨boxK rfl rfl, ⟨_, rfl, rfl, rfl, rfl, rfl, fun a b ha hb => by
      obtain rfl := Nat.lt_one_iff.1 ha
      match b, hb with
      | 0, _ => exact ⟨_, rfl, rfl⟩
      | 1, _ => exact ⟨_, rfl, rfl⟩
      | 2, _ => exact ⟨_, rfl, rfl, rfl⟩⟩, ⟨_, rfl, rfl, rfl, ej, rfl, fun a b ha hb => regE rfl (ql_clos (c := fun k => ofR (G (k / m) (k % m))) a b)⟩, trivial⟩ ⟨⟨_, rfl, rfl⟩, .inl ⟨_, _, rfl, rfl, fun _ _ _ _ => rfl⟩, ⟨_, rfl, rfl, rfl⟩, ⟨_, rfl, rfl, rfl⟩, ⟨_, rfl, rfl⟩, trivial⟩, by omega⟩
  · have h := of_decide_eq_false h
    have e : i = n := by omega
    have g : Sub (.g [.int .i64 n, .int .i64 m, .row 4 (i * m) (qlF fun k => ofR (G (k / m) (k % m)))]) (.g (matL n m G)) := by rw [e]; exact Sub.refl _
    conv => whnf
    refine ⟨fun a b _ _ => ql_clos (c := fun k => ofR (G (k / m) (k % m))) a b, ?_⟩
    conv => whnf
    exact ⟨rfl, g⟩
end Rf
end Go.Proofs.YtigciplaoikcfaaGreat
/- The document's product of matrices. -/
namespace Go.Proofs.YtigciplaoikcfaaGreat
open Go.RowKit
namespace Rf
set_option maxHeartbeats 8000000 in
theorem rmatmulR_ok {n k m : Nat} {q p : Nat → RawR} {A B : Nat → Nat → Rat} (hn : n ≤ 64) (hk : k ≤ 64) (hm : m ≤ 64) (hA : ∀ i j, i < n → j < k → qlen (A i j) ≤ 65535) (hB : ∀ i j, i < k → j < m → qlen (B i j) ≤ 65535) (hS : ∀ r i j, r < n → i ≤ k → j < m → qlen (sumR (A r) B i j) ≤ 65535) (hq : ∀ i, i < n * k → wq (q i)) (hqv : ∀ i j, i < n → j < k → (q (i * k + j)).val = A i j) (hp : ∀ i, i < k * m → wq (p i)) (hpv : ∀ i j, i < k → j < m → (p (i * m + j)).val = B i j) : FnOK Tryz.prog false 14 [.g (rmat n k q), .g (rmat k m p)] (.g (matL n m fun r => sumR (A r) B k)) := by
  have r0 := rowsR_ok (n := n) (m := k) (q := q) (G := A) hn hk hq hqv
  have a0 : ∀ i, i < n → FnOK Tryz.prog false 45 [.c (nql k (A i)), .g (rmat k m p)] (.c (nql m (sumR (A i) B k))) := fun i hi => applyR_ok hk hm (fun j hj => hA i j hi hj) hB (fun r j hr hj => hS i r j hi hr hj) hp hpv
  have o0 := rof_mat (n := n) (m := m) (G := fun r => sumR (A r) B k) hn hm fun i j hi hj => by have := hS i k j hi (Nat.le_refl _) hj; omega
  clear hA hB hS hq hqv hp hpv
  have o1 : ∀ i, i = n → FnOK Tryz.prog false 39 [.c (.int .i64 m), .c (.row 1 i fun a _ => nql m (sumR (A a) B k))] (.g (matL n m fun r => sumR (A r) B k)) := fun i e => by rw [e]; exact o0
  refine fn_ok (E := E0) E0_ok Tryz.func14 rfl mixed (by kernel_rfl) (by kernel_rfl) ?_
  conv => whnf
  refine ⟨_, r0, ?_⟩
  conv => whnf
  refine loop_ints (fun i : Nat => gst [(3, .c (.p 0 0 3 0 0)), (4, .c (.p 1 0 3 0 0)), (5, .c (rowsC n k A)), (6, .c (.gs 2 0)), (7, .c (.int .i64 i))] [⟨25, 3, 1, boxF (rmat k m p)⟩, ⟨25, 3, 1, boxF [.int .i64 0, .int .i64 0, .nil]⟩, ⟨22, 1, i, fun a _ => nql m (sumR (A a) B k)⟩]) (fun i => n - i) (fun i => i ≤ n) 0 rfl (Weak.gen [some 1, some 2, none] rfl ⟨boxK rfl rfl, boxK rfl rfl, rfl, trivial⟩ ⟨⟨_, rfl, rfl, rfl⟩, ⟨_, rfl, rfl, rfl⟩, .inl ⟨_, _, rfl, rfl, fun _ _ _ _ => rfl⟩, rfl, ⟨_, rfl, rfl⟩, trivial⟩) (Nat.zero_le _) fun i hi => ?_
  have a0 := a0 i
  conv => whnf
  refine bcase (fun (h : decide ((i : Int) < n) = true) => ?_) fun (h : decide ((i : Int) < n) = false) => ?_
  · have h := of_decide_eq_true h
    have a0 := a0 (by omega)
    conv => whnf
    refine ⟨by omega, by omega, ?_⟩
    conv => whnf
    refine ⟨_, a0, ?_⟩
    conv => whnf
    refine .inr ⟨rfl, ?_⟩
    conv => whnf
    refine ⟨by show i + 1 ≤ 16777216; omega, fun a b ha hb => ?_, ?_⟩
    · match a, b, ha, hb with
      | 0, 0, _, _ => exact ⟨rfl, fun h => by cases h⟩
    conv => whnf
    refine ⟨i64 (by omega) (by omega), ?_⟩
    conv => whnf
    exact ⟨i + 1, by omega, Weak.gen [some 0, some 1, some 2] rfl ⟨boxK rfl rfl, boxK rfl rfl, ⟨_, rfl, rfl, rfl, rfl, rfl, fun a b ha hb => regApp (t := fun a => nql m (sumR (A a) B k)) ha hb (fun _ => regE rfl rfl) (regE rfl rfl)⟩, trivial⟩ ⟨⟨_, rfl, rfl, rfl⟩, ⟨_, rfl, rfl, rfl⟩, .inl ⟨_, _, rfl, rfl, fun _ _ _ _ => rfl⟩, ⟨_, rfl, rfl, rfl⟩, ⟨_, rfl, rfl⟩, trivial⟩, by omega⟩
  · have h := of_decide_eq_false h
    have g := o1 i (by omega)
    conv => whnf
    refine ⟨fun a b _ _ => rfl, ?_⟩
    conv => whnf
    refine ⟨_, g, ?_⟩
    conv => whnf
    exact ⟨rfl, Sub.refl _⟩
theorem rmatmul_ok {n k m : Nat} {A B : Nat → Nat → Rat} (hn : n ≤ 64) (hk : k ≤ 64) (hm : m ≤ 64) (hA : ∀ i j, i < n → j < k → qlen (A i j) ≤ 65535) (hB : ∀ i j, i < k → j < m → qlen (B i j) ≤ 65535) (hS : ∀ r i j, r < n → i ≤ k → j < m → qlen (sumR (A r) B i j) ≤ 65535) : FnOK Tryz.prog false 14 [.g (matL n k A), .g (matL k m B)] (.g (matL n m fun r => sumR (A r) B k)) :=
  rmatmulR_ok hn hk hm hA hB hS (wq_mat fun i j a b => by have := hA i j a b; omega) (val_mat (n := n)) (wq_mat fun i j a b => by have := hB i j a b; omega) (val_mat (n := k))
end Rf
end Go.Proofs.YtigciplaoikcfaaGreat
/- Lists and matrices are the same as themselves. -/
namespace Go.Proofs.YtigciplaoikcfaaGreat
open Go.RowKit
namespace Rf
set_option maxHeartbeats 4000000 in
theorem sameInt_ok {n m : Nat} {a b : Nat → Nat} {s s' r : Bool} (hn : n ≤ 1048576) (hr : r = true ↔ s = s' ∧ n = m ∧ ∀ i, i < n → a i = b i) : FnOK Tryz.prog false 53 [bn s n a, bn s' m b] (.c (.bool r)) := by
  refine fn_ok (E := E0) E0_ok Tryz.func53 rfl mixed (by kernel_rfl) (by kernel_rfl) ?_
  conv => whnf
  refine bcase (fun (h : gw false (!(s == s')) = true) => ?_) fun (h : gw false (!(s == s')) = false) => ?_
  · have hs : s = s' := by have := gwf h; simpa using this
    conv => whnf
    refine bcase (fun (h1 : (!decide ((n : Int) = m)) = true) => ?_) fun (h1 : (!decide ((n : Int) = m)) = false) => ?_
    · have h1' : r = false := Bool.eq_false_iff.2 fun e => by have := (hr.1 e).2.1; subst this; simp at h1
      conv => whnf
      exact ⟨rfl, sub_bool h1'.symm⟩
    have h1' : n = m := by
      have : (n : Int) = m := by simpa using h1
      omega
    subst h1'
    conv => whnf
    refine loop_ints (fun i : Nat => gst [(2, .c (.p 0 0 2 0 0)), (3, .c (.p 1 0 2 0 0)), (5, .c (.int .i64 i))] [gi s n a, gi s' n b]) (fun i => n - i) (fun i => i ≤ n ∧ ∀ j, j < i → a j = b j) 0 rfl ?_ ⟨Nat.zero_le _, fun j h => by omega⟩ fun i ⟨hi, hh⟩ => ?_
    · exact Weak.gen [some 0, some 1] rfl ⟨boxK rfl rfl, boxK rfl rfl, trivial⟩ ⟨⟨_, rfl, rfl, rfl⟩, ⟨_, rfl, rfl, rfl⟩, ⟨_, rfl, rfl⟩, trivial⟩
    have hr' : r = false ∨ a i = b i ∨ ¬ i < n := by
      by_cases c : i < n
      · by_cases c' : a i = b i
        · exact .inr (.inl c')
        · exact .inl (Bool.eq_false_iff.2 fun e => c' ((hr.1 e).2.2 i c))
      · exact .inr (.inr c)
    conv => whnf
    refine bcase (fun (h2 : decide ((i : Int) < n) = true) => ?_) fun (h2 : decide ((i : Int) < n) = false) => ?_
    · have h2' := of_decide_eq_true h2
      conv => whnf
      refine ⟨by omega, by omega, ?_⟩
      conv => whnf
      refine ⟨by omega, by omega, ?_⟩
      conv => whnf
      refine bcase (fun (h3 : (!decide ((a i : Int) = (b i : Int))) = true) => ?_) fun (h3 : (!decide ((a i : Int) = (b i : Int))) = false) => ?_
      · have h3' : r = false := by
          refine Bool.eq_false_iff.2 fun e => ?_
          have := (hr.1 e).2.2 i (by omega)
          rw [this] at h3; simp at h3
        conv => whnf
        exact ⟨rfl, sub_bool h3'.symm⟩
      · have h3' : a i = b i := by
          have : (a i : Int) = b i := by simpa using h3
          omega
        conv => whnf
        refine ⟨i64 (by omega) (by omega), ?_⟩
        conv => whnf
        exact ⟨i + 1, by omega, Weak.gen [some 0, some 1] rfl ⟨boxK rfl rfl, boxK rfl rfl, trivial⟩ ⟨⟨_, rfl, rfl, rfl⟩, ⟨_, rfl, rfl, rfl⟩, ⟨_, rfl, by omega⟩, trivial⟩, by omega, fun j hj => if e : j = i then by rw [e]; exact h3' else hh j (by omega)⟩
    · have h2' := of_decide_eq_false h2
      have h3' : r = true := hr.2 ⟨hs, rfl, fun j hj => hh j (by omega)⟩
      conv => whnf
      exact ⟨rfl, sub_bool h3'.symm⟩
  · have hs : s ≠ s' := by
      have := gwf' h
      intro e; subst e; simp at this
    have h1' : r = false := Bool.eq_false_iff.2 fun e => hs (hr.1 e).1
    conv => whnf
    exact ⟨rfl, sub_bool h1'.symm⟩
theorem sameInt_n (x : Int) (h : zlen x ≤ 1048576) : FnOK Tryz.prog false 53 [.g (nz x), .g (nz x)] (.c (.bool true)) :=
  sameInt_ok (n := (digs x.natAbs).length) (m := (digs x.natAbs).length) (a := ld (digs x.natAbs)) (b := ld (digs x.natAbs)) h ⟨fun _ => ⟨rfl, rfl, fun _ _ => rfl⟩, fun _ => rfl⟩
set_option maxHeartbeats 4000000 in
theorem sameRat_n {x : Rat} (h : qlen x ≤ 524286) : FnOK Tryz.prog false 72 [.g (nq x), .g (nq x)] (.c (.bool true)) := by
  have h1 := lenZ h
  have s1 := sameInt_n x.num (by omega)
  have s2 := sameInt_n (x.den : Int) (by omega)
  refine fn_ok (E := E0) E0_ok Tryz.func72 rfl mixed (by kernel_rfl) (by kernel_rfl) ?_
  conv => whnf
  refine ⟨_, s1, ?_⟩
  conv => whnf
  refine ⟨_, s2, ?_⟩
  conv => whnf
  exact ⟨rfl, Sub.refl _⟩
set_option maxHeartbeats 4000000 in
theorem sameRats_n {n : Nat} {v : Nat → Rat} (hn : n ≤ 4096) (h : ∀ i, i < n → qlen (v i) ≤ 524286) : FnOK Tryz.prog false 26 [.c (nql n v), .c (nql n v)] (.c (.bool true)) := by
  have s1 := fun i hi => sameRat_n (h i hi)
  clear h
  refine fn_ok (E := E0) E0_ok Tryz.func26 rfl mixed (by kernel_rfl) (by kernel_rfl) ?_
  conv => whnf
  refine bneg (show (!decide ((n : Int) = n)) = false by simp) ?_
  conv => whnf
  refine loop_ints (fun i : Nat => gst [(0, .c (nql n v)), (1, .c (nql n v)), (5, .c (.int .i64 i))] []) (fun i => n - i) (fun i => i ≤ n) 0 rfl (Weak.gen [] rfl trivial ⟨.inl ⟨_, _, rfl, rfl, fun _ _ _ _ => rfl⟩, .inl ⟨_, _, rfl, rfl, fun _ _ _ _ => rfl⟩, ⟨_, rfl, rfl⟩, trivial⟩) (Nat.zero_le _) fun i hi => ?_
  have s1 := s1 i
  conv => whnf
  refine bcase (fun (h : decide ((i : Int) < n) = true) => ?_) fun (h : decide ((i : Int) < n) = false) => ?_
  · have h := of_decide_eq_true h
    have s1 := s1 (by omega)
    conv => whnf
    refine ⟨by omega, by omega, ?_⟩
    conv => whnf
    refine ⟨by omega, by omega, ?_⟩
    conv => whnf
    refine ⟨_, s1, ?_⟩
    conv => whnf
    refine ⟨i64 (by omega) (by omega), ?_⟩
    conv => whnf
    exact ⟨i + 1, by omega, Weak.gen [] rfl trivial ⟨.inl ⟨_, _, rfl, rfl, fun _ _ _ _ => rfl⟩, .inl ⟨_, _, rfl, rfl, fun _ _ _ _ => rfl⟩, ⟨_, rfl, rfl⟩, trivial⟩, by omega⟩
  · conv => whnf
    exact ⟨rfl, Sub.refl _⟩
set_option maxHeartbeats 4000000 in
theorem sameMat_n {n m : Nat} {G : Nat → Nat → Rat} (hn : n ≤ 64) (hm : m ≤ 64) (h : ∀ i j, i < n → j < m → qlen (G i j) ≤ 524286) : FnOK Tryz.prog false 11 [.g (matL n m G), .g (matL n m G)] (.c (.bool true)) := by
  have s := sameRats_n (n := n * m) (v := fun k => G (k / m) (k % m)) (Nat.le_trans (Nat.mul_le_mul hn hm) (by decide)) fun i hi => by
    have h0 : 0 < m := Nat.pos_of_ne_zero fun e => by rw [e, Nat.mul_zero] at hi; omega
    exact h _ _ (Nat.div_lt_of_lt_mul (by rw [Nat.mul_comm]; exact hi)) (Nat.mod_lt _ h0)
  refine fn_ok (E := E0) E0_ok Tryz.func11 rfl mixed (by kernel_rfl) (by kernel_rfl) ?_
  conv => whnf
  refine bpos (gw_true.2 (show decide ((n : Int) = n) = true by simp)) ?_
  conv => whnf
  refine bpos (gw_true.2 (show decide ((m : Int) = m) = true by simp)) ?_
  conv => whnf
  refine ⟨_, s, ?_⟩
  conv => whnf
  exact ⟨rfl, Sub.refl _⟩
end Rf
end Go.Proofs.YtigciplaoikcfaaGreat
