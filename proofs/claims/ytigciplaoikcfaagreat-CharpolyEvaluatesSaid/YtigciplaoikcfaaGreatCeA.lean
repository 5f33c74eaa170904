/- Polynomials at matrices: the unit matrix, by runs; the document's sum of matrices. -/
import Derived.Test.YtigciplaoikcfaaGreatSmC
import Derived.Test.YtigciplaoikcfaaGreatMtA
import Derived.Test.YtigciplaoikcfaaGreatRgA
import Derived.Test.YtigciplaoikcfaaGreatSpE
import Derived.Test.YtigciplaoikcfaaGreatSumL
namespace Go.Proofs.YtigciplaoikcfaaGreat
open Go.RowKit
def inlDoc (f : FuncId) : Bool := [38].contains f
def inlUnit (f : FuncId) : Bool := [79, 78, 118, 77].contains f
theorem ident0 : FnOK Tryz.prog false 31 [.c (.int .i64 (0 : Nat))] (.t2 (.g (matL 0 0 mone)) (.c (.int .i64 0))) := run_same (inl := inlUnit) (by kernel_rfl)
theorem ident1 : FnOK Tryz.prog false 31 [.c (.int .i64 (1 : Nat))] (.t2 (.g (matL 1 1 mone)) (.c (.int .i64 0))) := run_same (inl := inlUnit) (by kernel_rfl)
theorem ident2 : FnOK Tryz.prog false 31 [.c (.int .i64 (2 : Nat))] (.t2 (.g (matL 2 2 mone)) (.c (.int .i64 0))) := run_same (inl := inlUnit) (by kernel_rfl)
theorem ident3 : FnOK Tryz.prog false 31 [.c (.int .i64 (3 : Nat))] (.t2 (.g (matL 3 3 mone)) (.c (.int .i64 0))) := run_same (inl := inlUnit) (by kernel_rfl)
theorem ident4 : FnOK Tryz.prog false 31 [.c (.int .i64 (4 : Nat))] (.t2 (.g (matL 4 4 mone)) (.c (.int .i64 0))) := run_same (inl := inlUnit) (by kernel_rfl)
theorem identity_ok : ∀ {n : Nat}, n ≤ 4 → FnOK Tryz.prog true 31 [.c (.int .i64 n)] (.t2 (.g (matL n n mone)) (.c (.int .i64 0)))
  | 0, _ => ident0.weak
  | 1, _ => ident1.weak
  | 2, _ => ident2.weak
  | 3, _ => ident3.weak
  | 4, _ => ident4.weak
theorem rident0 : FnOK Tryz.prog false 41 [.c (.int .i64 (0 : Nat))] (.g (matL 0 0 mone)) := run_same (inl := inlDoc) (by kernel_rfl)
theorem rident1 : FnOK Tryz.prog false 41 [.c (.int .i64 (1 : Nat))] (.g (matL 1 1 mone)) := run_same (inl := inlDoc) (by kernel_rfl)
theorem rident2 : FnOK Tryz.prog false 41 [.c (.int .i64 (2 : Nat))] (.g (matL 2 2 mone)) := run_same (inl := inlDoc) (by kernel_rfl)
theorem rident3 : FnOK Tryz.prog false 41 [.c (.int .i64 (3 : Nat))] (.g (matL 3 3 mone)) := run_same (inl := inlDoc) (by kernel_rfl)
theorem rident4 : FnOK Tryz.prog false 41 [.c (.int .i64 (4 : Nat))] (.g (matL 4 4 mone)) := run_same (inl := inlDoc) (by kernel_rfl)
theorem ridentity_ok : ∀ {n : Nat}, n ≤ 4 → FnOK Tryz.prog false 41 [.c (.int .i64 n)] (.g (matL n n mone))
  | 0, _ => rident0
  | 1, _ => rident1
  | 2, _ => rident2
  | 3, _ => rident3
  | 4, _ => rident4
namespace Rf
set_option maxHeartbeats 8000000 in
theorem raddm_ok {n m : Nat} {A B : Nat → Nat → Rat} {c : Rat} (hn : n ≤ 64) (hm : m ≤ 64) (hA : ∀ i j, i < n → j < m → qlen (A i j) ≤ 65535) (hB : ∀ i j, i < n → j < m → qlen (B i j) ≤ 65535) (hc : qlen c ≤ 65535) (hS : ∀ i j, i < n → j < m → qlen (A i j + c * B i j) ≤ 524286) : FnOK Tryz.prog false 40 [.g (matL n m A), .g (nq c), .g (matL n m B)] (.g (matL n m fun i j => A i j + c * B i j)) := by
  have r1 := rows_ok (n := n) (m := m) (G := A) hn hm fun i j a b => by have := hA i j a b; omega
  have r2 := rows_ok (n := n) (m := m) (G := B) hn hm fun i j a b => by have := hB i j a b; omega
  have c0 : ∀ i, i < n → FnOK Tryz.prog false 88 [.c (nql m (A i)), .g (nq c), .c (nql m (B i))] (.c (nql m fun j => A i j + c * B i j)) := fun i hi => rcomb_ok (by omega) (fun j hj => hA i j hi hj) (fun j hj => hB i j hi hj) hc
  have o0 := rof_mat (n := n) (m := m) (G := fun i j => A i j + c * B i j) hn hm hS
  clear hA hB hS hc
  obtain ⟨Z, hZ⟩ : ∃ Z : Nat → Nat → Rat, Z = fun i j => A i j + c * B i j := ⟨_, rfl⟩
  have c0 : ∀ i, i < n → FnOK Tryz.prog false 88 [.c (nql m (A i)), .g (nq c), .c (nql m (B i))] (.c (nql m (Z i))) := by rw [hZ]; exact c0
  rw [← hZ] at o0 ⊢
  clear hZ
  have o1 : ∀ i, i = n → FnOK Tryz.prog false 39 [.c (.int .i64 m), .c (.row 1 i fun a _ => nql m (Z a))] (.g (matL n m Z)) := fun i e => by rw [e]; exact o0
  refine fn_ok (E := E0) E0_ok Tryz.func40 rfl mixed (by kernel_rfl) (by kernel_rfl) ?_
  conv => whnf
  refine ⟨_, r1, ?_⟩
  conv => whnf
  refine ⟨_, r2, ?_⟩
  conv => whnf
  refine loop_ints (fun i : Nat => gst [(3, .c (.p 0 0 3 0 0)), (4, .c (.p 1 0 4 0 0)), (6, .c (.p 2 0 3 0 0)), (7, .c (rowsC n m A)), (8, .c (rowsC n m B)), (9, .c (.gs 3 0)), (10, .c (.int .i64 i))] [⟨25, 3, 1, boxF (matL n m A)⟩, ⟨63, 4, 1, boxF (nq c)⟩, ⟨25, 3, 1, boxF [.int .i64 0, .int .i64 0, .nil]⟩, ⟨22, 1, i, fun a _ => nql m (Z a)⟩]) (fun i => n - i) (fun i => i ≤ n) 0 rfl (Weak.gen [some 0, some 1, some 3, none] rfl ⟨boxK rfl rfl, boxK rfl rfl, boxK rfl rfl, rfl, trivial⟩ ⟨⟨_, rfl, rfl, rfl⟩, ⟨_, rfl, rfl, rfl⟩, ⟨_, rfl, rfl, rfl⟩, .inl ⟨_, _, rfl, rfl, fun _ _ _ _ => rfl⟩, .inl ⟨_, _, rfl, rfl, fun _ _ _ _ => rfl⟩, rfl, ⟨_, rfl, rfl⟩, trivial⟩) (Nat.zero_le _) fun i hi => ?_
  have c0 := c0 i
  have o1 := o1 i
  conv => whnf
  refine bcase (fun (h : decide ((i : Int) < n) = true) => ?_) fun (h : decide ((i : Int) < n) = false) => ?_
  · have h := of_decide_eq_true h
    have c0 := c0 (by omega)
    conv => whnf
    refine ⟨by omega, by omega, ?_⟩
    conv => whnf
    refine ⟨by omega, by omega, ?_⟩
    conv => whnf
    refine ⟨_, c0, ?_⟩
    conv => whnf
    refine .inr ⟨rfl, ?_⟩
    conv => whnf
    refine ⟨by show i + 1 ≤ 16777216; omega, fun a b ha hb => ?_, ?_⟩
    · match a, b, ha, hb with
      | 0, 0, _, _ => exact ⟨rfl, fun h => by cases h⟩
    conv => whnf
    refine ⟨i64 (by omega) (by omega), ?_⟩
    conv => whnf
    exact ⟨i + 1, by omega, Weak.gen [some 0, some 1, some 2, some 3] rfl ⟨boxK rfl rfl, boxK rfl rfl, boxK rfl rfl, ⟨_, rfl, rfl, rfl, rfl, rfl, fun a b ha hb => regApp (t := fun a => nql m (Z a)) ha hb (fun _ => regE rfl rfl) (regE rfl rfl)⟩, trivial⟩ ⟨⟨_, rfl, rfl, rfl⟩, ⟨_, rfl, rfl, rfl⟩, ⟨_, rfl, rfl, rfl⟩, .inl ⟨_, _, rfl, rfl, fun _ _ _ _ => rfl⟩, .inl ⟨_, _, rfl, rfl, fun _ _ _ _ => rfl⟩, ⟨_, rfl, rfl, rfl⟩, ⟨_, rfl, rfl⟩, trivial⟩, by omega⟩
  · have h := of_decide_eq_false h
    have o1 := o1 (by omega)
    conv => whnf
    refine ⟨fun _ _ _ _ => rfl, ?_⟩
    conv => whnf
    refine ⟨_, o1, ?_⟩
    conv => whnf
    exact ⟨rfl, Sub.refl _⟩
end Rf
end Go.Proofs.YtigciplaoikcfaaGreat
/- A polynomial at a matrix, in the program and in the document. -/
namespace Go.Proofs.YtigciplaoikcfaaGreat
open Go.RowKit
namespace Rf
/-- The matrices of Horner's rule, from the top: their law. -/
structure Hor (n T : Nat) (F : Nat → Rat) (A : Nat → Nat → Rat) (H : Nat → Nat → Nat → Rat) : Prop where
  zero : H 0 = fun _ _ => 0
  step : ∀ t i j, t < T → H (t + 1) i j = sumR (H t i) A n j + F (T - 1 - t) * mone i j
theorem mone_mul_len {x : Rat} {L : Nat} (h : qlen x ≤ L) (i j : Nat) : qlen (x * mone i j) ≤ L := by
  unfold mone
  split
  · rw [Rat.mul_one]; exact h
  · rw [Rat.mul_zero]
    have : qlen 0 ≤ qlen x := by
      have h0 : qlen 0 = 1 := by decide
      have h1 : 1 ≤ qlen x := by
        have h2 : zlen (x.den : Int) ≤ qlen x := Nat.le_max_right _ _
        have h3 : zlen (x.den : Int) ≠ 0 := fun e => by
          have := zlen_eq_zero.1 e
          have := x.den_pos
          omega
        omega
      omega
    omega
theorem fit_mat {n m L : Nat} {G : Nat → Nat → Rat} (h : ∀ i j, i < n → j < m → qlen (G i j) ≤ L) (k : Nat) (hk : k < n * m) : (ofR (G (k / m) (k % m))).Fit L := by
  have h0 : 0 < m := Nat.pos_of_ne_zero fun e => by rw [e, Nat.mul_zero] at hk; omega
  exact ofR_fit (h _ _ (Nat.div_lt_of_lt_mul (by rw [Nat.mul_comm]; exact hk)) (Nat.mod_lt _ h0))
theorem mat_lt {n m k : Nat} (hk : k < n * m) : k / m < n ∧ k % m < m := by
  have h0 : 0 < m := Nat.pos_of_ne_zero fun e => by rw [e, Nat.mul_zero] at hk; omega
  exact ⟨Nat.div_lt_of_lt_mul (by rw [Nat.mul_comm]; exact hk), Nat.mod_lt _ h0⟩
set_option maxHeartbeats 3000000 in
theorem at_ok {n N T : Nat} {q p : Nat → RawR} {F : Nat → Rat} {A : Nat → Nat → Rat} {H : Nat → Nat → Nat → Rat} (hn : n ≤ 4) (hN : N ≤ 1024) (hqF : (fun i => (q i).val) = F) (hT : Q.tq F N = T) (hT64 : T ≤ 65) (hq : ∀ i, i < N → (q i).Fit KD) (hp : ∀ a, a < n * n → (p a).Fit KD) (hpv : ∀ i j, i < n → j < n → (p (i * n + j)).val = A i j) (hA : ∀ i j, i < n → j < n → qlen (A i j) ≤ KD) (hF : ∀ i, i < T → qlen (F i) ≤ KD)
    (hH : ∀ t i j, t ≤ T → i < n → j < n → qlen (H t i j) ≤ KD) (hS : ∀ t r i j, t < T → r < n → i ≤ n → j < n → qlen (sumR (H t r) A i j) ≤ KD) (hor : Hor n T F A H) : FnOK Tryz.prog true 8 [.c (ql N q), .g (rmat n n p)] (.t2 (.g (matL n n (H T))) (.c (.int .i64 0))) := by
  have k0 : FnOK Tryz.prog true 28 [.g (rmat n n p)] (.c (.int .i64 0)) := by
    have h := check_ok (r := n) (c := n) (len := n * n) (f := qlF p)
    rwa [show firstErr (n : Int) n ((n * n : Nat) : Int) = 0 by
      unfold firstErr
      rw [if_pos ⟨⟨⟨by omega, by omega⟩, ⟨by omega, by omega⟩, by rw [Int.natCast_mul]⟩, rfl⟩, if_neg (by omega)]] at h
  have q0 := qnorm_ok (n := N) hqF (by omega) hq (by decide)
  rw [hT] at q0
  have n0 : FnOK Tryz.prog true 30 [.c (.int .i64 n), .c (.int .i64 n)] (.t2 (.g (matL n n (H 0))) (.c (.int .i64 0))) := by
    rw [hor.zero]
    exact new_ok (by omega) (by omega)
  have i0 := identity_ok hn
  have m0' : ∀ t, t < T → FnOK Tryz.prog true 32 [.g (matL n n (H t)), .g (rmat n n p)] (.t2 (.g (matL n n fun r => sumR (H t r) A n)) (.c (.int .i64 0))) := fun t ht =>
    mulR_ok (q := fun k => ofR (H t (k / n) (k % n))) (by omega) (by omega) (by omega) (fit_mat fun i j hi hj => hH t i j (by omega) hi hj) (val_mat (n := n)) hp hpv (fun i j hi hj => hH t i j (by omega) hi hj) hA fun r i j hr hi hj => hS t r i j ht hr hi hj
  have s0' : ∀ t, t < T → FnOK Tryz.prog true 33 [.g (matL n n mone), .g (nq (F ((T : Int) - 1 - (t : Int)).toNat))] (.t2 (.g (matL n n fun i j => F (T - 1 - t) * mone i j)) (.c (.int .i64 0))) := fun t ht => by
    rw [show ((T : Int) - 1 - (t : Int)).toNat = T - 1 - t by omega]
    exact scaleR_ok (q := fun k => ofR (mone (k / n) (k % n))) (x := ofR (F (T - 1 - t))) (z := fun k => F (T - 1 - t) * mone (k / n) (k % n)) (L := KD) (by omega) (by omega) (fit_mat fun i j _ _ => by
      have := mone_mul_len (x := 1) (L := 1) (by decide) i j
      rw [Rat.one_mul] at this
      exact Nat.le_trans this (by decide)) (ofR_fit (hF _ (by omega))) (by decide) fun a _ => by rw [ofR_val, ofR_val]
  have a0' : ∀ t, t < T → FnOK Tryz.prog true 34 [.g (matL n n fun r => sumR (H t r) A n), .g (matL n n fun i j => F (T - 1 - t) * mone i j)] (.t2 (.g (matL n n (H (t + 1)))) (.c (.int .i64 0))) := fun t ht =>
    addR_ok (q := fun k => ofR (sumR (H t (k / n)) A n (k % n))) (p := fun k => ofR (F (T - 1 - t) * mone (k / n) (k % n))) (z := fun k => H (t + 1) (k / n) (k % n)) (L := KD) (by omega) (by omega) (fit_mat (G := fun r => sumR (H t r) A n) fun i j hi hj => hS t i n j ht hi (Nat.le_refl _) hj) (fit_mat (G := fun i j => F (T - 1 - t) * mone i j) fun i j _ _ => mone_mul_len (hF _ (by omega)) i j) (by decide) fun a _ => by rw [ofR_val, ofR_val, hor.step t _ _ ht]
  clear hqF hT hq hp hpv hA hF hH hS hor
  obtain ⟨P, hP⟩ : ∃ P : Nat → Nat → Nat → Rat, P = fun t r => sumR (H t r) A n := ⟨_, rfl⟩
  obtain ⟨Z, hZ⟩ : ∃ Z : Nat → Nat → Nat → Rat, Z = fun t i j => F (T - 1 - t) * mone i j := ⟨_, rfl⟩
  have m0 : ∀ t, t < T → FnOK Tryz.prog true 32 [.g (matL n n (H t)), .g (rmat n n p)] (.t2 (.g (matL n n (P t))) (.c (.int .i64 0))) := by rw [hP]; exact m0'
  have s0 : ∀ t, t < T → FnOK Tryz.prog true 33 [.g (matL n n mone), .g (nq (F ((T : Int) - 1 - (t : Int)).toNat))] (.t2 (.g (matL n n (Z t))) (.c (.int .i64 0))) := by rw [hZ]; exact s0'
  have a0 : ∀ t, t < T → FnOK Tryz.prog true 34 [.g (matL n n (P t)), .g (matL n n (Z t))] (.t2 (.g (matL n n (H (t + 1)))) (.c (.int .i64 0))) := by rw [hP, hZ]; exact a0'
  clear hP hZ m0' s0' a0'
  generalize mone = U at *
  refine fn_ok (E := E1) E1_ok Tryz.func8 rfl mixed (by kernel_rfl) (by kernel_rfl) ?_
  conv => whnf
  refine ⟨_, k0, ?_⟩
  conv => whnf
  refine .inr ⟨_, q0, ?_⟩
  conv => whnf
  refine ⟨i64 (by omega) (by omega), ?_⟩
  conv => whnf
  refine bneg (show decide ((64 : Int) < (T : Int) - 1) = false from decide_eq_false (by omega)) ?_
  conv => whnf
  refine ⟨_, n0, ?_⟩
  conv => whnf
  refine ⟨_, i0, ?_⟩
  conv => whnf
  refine ⟨i64 (by omega) (by omega), ?_⟩
  conv => whnf
  refine loop_ints (fun t : Nat => gst [(0, .c (nql T F)), (3, .c (.p 0 0 3 0 0)), (4, .c (.p 1 0 3 0 0)), (7, .c (.p 2 0 3 0 0)), (9, .c (.p 3 0 3 0 0)), (11, .c (.int .i64 ((T : Int) - 1 - (t : Int))))] [⟨25, 3, 1, boxF (rmat n n p)⟩, ⟨25, 3, 1, boxF [.int .i64 0, .int .i64 0, .nil]⟩, ⟨25, 3, 1, boxF (matL n n (H t))⟩, ⟨25, 3, 1, boxF (matL n n U)⟩]) (fun t => T - t) (fun t => t ≤ T) 0 rfl (Weak.gen [some 0, some 1, some 2, some 3] rfl ⟨boxK rfl rfl, boxK rfl rfl, boxU rfl rfl rfl, boxU rfl rfl rfl, trivial⟩ ⟨.inl ⟨_, _, rfl, rfl, fun _ _ _ _ => rfl⟩, ⟨_, rfl, rfl, rfl⟩, ⟨_, rfl, rfl, rfl⟩, ⟨_, rfl, rfl, rfl⟩, ⟨_, rfl, rfl, rfl⟩, ⟨_, rfl, by omega⟩, trivial⟩) (Nat.zero_le _) fun t ht => ?_
  have m0 := m0 t
  have s0 := s0 t
  have a0 := a0 t
  conv => whnf
  refine bcase (fun (h : decide ((0 : Int) ≤ (T : Int) - 1 - (t : Int)) = true) => ?_) fun (h : decide ((0 : Int) ≤ (T : Int) - 1 - (t : Int)) = false) => ?_
  · have h := of_decide_eq_true h
    have m0 := m0 (by omega)
    have s0 := s0 (by omega)
    have a0 := a0 (by omega)
    conv => whnf
    refine ⟨_, m0, ?_⟩
    conv => whnf
    refine ⟨by omega, by show (T : Int) - 1 - (t : Int) < (T : Int); omega, ?_⟩
    conv => whnf
    refine ⟨_, s0, ?_⟩
    conv => whnf
    refine ⟨_, a0, ?_⟩
    conv => whnf
    refine ⟨i64 (by omega) (by omega), ?_⟩
    conv => whnf
    exact ⟨t + 1, by omega, Weak.gen [some 0, some 1, some 2, some 3] rfl ⟨boxK rfl rfl, boxK rfl rfl, boxU rfl rfl rfl, boxK rfl rfl, trivial⟩ ⟨.inl ⟨_, _, rfl, rfl, fun _ _ _ _ => rfl⟩, ⟨_, rfl, rfl, rfl⟩, ⟨_, rfl, rfl, rfl⟩, ⟨_, rfl, rfl, rfl⟩, ⟨_, rfl, rfl, rfl⟩, ⟨_, rfl, by omega⟩, trivial⟩, by omega⟩
  · have h := of_decide_eq_false h
    have e : t = T := by omega
    have g : Sub (.t2 (.g (matL n n (H t))) (.c (.int .i64 0))) (.t2 (.g (matL n n (H T))) (.c (.int .i64 0))) := by rw [e]; exact Sub.refl _
    conv => whnf
    exact ⟨rfl, g⟩
set_option maxHeartbeats 4000000 in
theorem at_large {n N : Nat} {q p : Nat → RawR} {F : Nat → Rat} (hn : n ≤ 4) (hN : N ≤ 1024) (hqF : (fun i => (q i).val) = F) (hT64 : 65 < Q.tq F N) (hq : ∀ i, i < N → (q i).Fit KD) : FnOK Tryz.prog true 8 [.c (ql N q), .g (rmat n n p)] (.t2 (.g [.int .i64 0, .int .i64 0, .nil]) (.c (.int .i64 7))) := by
  have k0 : FnOK Tryz.prog true 28 [.g (rmat n n p)] (.c (.int .i64 0)) := by
    have h := check_ok (r := n) (c := n) (len := n * n) (f := qlF p)
    rwa [show firstErr (n : Int) n ((n * n : Nat) : Int) = 0 by
      unfold firstErr
      rw [if_pos ⟨⟨⟨by omega, by omega⟩, ⟨by omega, by omega⟩, by rw [Int.natCast_mul]⟩, rfl⟩, if_neg (by omega)]] at h
  have q0 := qnorm_ok (n := N) hqF (by omega) hq (by decide)
  have hl := Q.tq_le F N
  clear hqF hq
  generalize Q.tq F N = T at *
  refine fn_ok (E := E1) E1_ok Tryz.func8 rfl mixed (by kernel_rfl) (by kernel_rfl) ?_
  conv => whnf
  refine ⟨_, k0, ?_⟩
  conv => whnf
  refine .inr ⟨_, q0, ?_⟩
  conv => whnf
  refine ⟨i64 (by omega) (by omega), ?_⟩
  conv => whnf
  refine bpos (show decide ((64 : Int) < (T : Int) - 1) = true from decide_eq_true (by omega)) ?_
  conv => whnf
  exact ⟨rfl, Sub.refl _⟩
set_option maxHeartbeats 3000000 in
theorem rat_ok {n T : Nat} {p : Nat → RawR} {F : Nat → Rat} {A : Nat → Nat → Rat} {H : Nat → Nat → Nat → Rat} (hn : n ≤ 4) (hT64 : T ≤ 65) (hp : ∀ a, a < n * n → wq (p a)) (hpv : ∀ i j, i < n → j < n → (p (i * n + j)).val = A i j) (hA : ∀ i j, i < n → j < n → qlen (A i j) ≤ 65535) (hF : ∀ i, i < T → qlen (F i) ≤ 65535)
    (hH : ∀ t i j, t ≤ T → i < n → j < n → qlen (H t i j) ≤ 65535) (hS : ∀ t r i j, t < T → r < n → i ≤ n → j < n → qlen (sumR (H t r) A i j) ≤ 65535) (hor : Hor n T F A H) : FnOK Tryz.prog false 12 [.c (nql T F), .g (rmat n n p)] (.g (matL n n (H T))) := by
  have z0 := rzeros_ok (n := n) (by omega)
  have o0 : ∀ i, i = n → FnOK Tryz.prog false 39 [.c (.int .i64 n), .c (.row 1 i fun a _ => nql n fun _ => 0)] (.g (matL n n (H 0))) := fun i e => by
    rw [e, hor.zero]
    exact rof_mat (n := n) (m := n) (G := fun _ _ => 0) (by omega) (by omega) fun _ _ _ _ => by decide
  have i0 := ridentity_ok hn
  have m0' : ∀ t, t < T → FnOK Tryz.prog false 14 [.g (matL n n (H t)), .g (rmat n n p)] (.g (matL n n fun r => sumR (H t r) A n)) := fun t ht =>
    rmatmulR_ok (q := fun k => ofR (H t (k / n) (k % n))) (by omega) (by omega) (by omega) (fun i j hi hj => hH t i j (by omega) hi hj) hA (fun r i j hr hi hj => hS t r i j ht hr hi hj) (wq_mat fun i j hi hj => by have := hH t i j (by omega) hi hj; omega) (val_mat (n := n)) hp hpv
  have a0' : ∀ t, t < T → FnOK Tryz.prog false 40 [.g (matL n n fun r => sumR (H t r) A n), .g (nq (F ((T : Int) - 1 - (t : Int)).toNat)), .g (matL n n mone)] (.g (matL n n (H (t + 1)))) := fun t ht => by
    rw [show ((T : Int) - 1 - (t : Int)).toNat = T - 1 - t by omega]
    have e : H (t + 1) = fun i j => sumR (H t i) A n j + F (T - 1 - t) * mone i j := funext fun i => funext fun j => hor.step t i j ht
    have h1 := hH (t + 1)
    rw [e] at h1 ⊢
    exact raddm_ok (by omega) (by omega) (fun i j hi hj => hS t i n j ht hi (Nat.le_refl _) hj) (fun i j _ _ => by
      have := mone_mul_len (x := 1) (L := 1) (by decide) i j
      rw [Rat.one_mul] at this
      exact Nat.le_trans this (by decide)) (hF _ (by omega)) fun i j hi hj => Nat.le_trans (h1 i j ht hi hj) (by decide)
  clear hp hpv hA hF hH hS hor
  obtain ⟨P, hP⟩ : ∃ P : Nat → Nat → Nat → Rat, P = fun t r => sumR (H t r) A n := ⟨_, rfl⟩
  have m0 : ∀ t, t < T → FnOK Tryz.prog false 14 [.g (matL n n (H t)), .g (rmat n n p)] (.g (matL n n (P t))) := by rw [hP]; exact m0'
  have a0 : ∀ t, t < T → FnOK Tryz.prog false 40 [.g (matL n n (P t)), .g (nq (F ((T : Int) - 1 - (t : Int)).toNat)), .g (matL n n mone)] (.g (matL n n (H (t + 1)))) := by rw [hP]; exact a0'
  clear hP m0' a0'
  generalize mone = U at *
  refine fn_ok (E := E0) E0_ok Tryz.func12 rfl mixed (by kernel_rfl) (by kernel_rfl) ?_
  conv => whnf
  refine loop_ints (fun i : Nat => gst [(0, .c (nql T F)), (3, .c (.p 0 0 3 0 0)), (4, .c (.p 1 0 3 0 0)), (5, .c (.gs 2 0)), (6, .c (.int .i64 i))] [⟨25, 3, 1, boxF (rmat n n p)⟩, ⟨25, 3, 1, boxF [.int .i64 0, .int .i64 0, .nil]⟩, ⟨22, 1, i, fun _ _ => nql n fun _ => 0⟩]) (fun i => n - i) (fun i => i ≤ n) 0 rfl (Weak.gen [some 0, some 1, none] rfl ⟨boxK rfl rfl, boxK rfl rfl, rfl, trivial⟩ ⟨.inl ⟨_, _, rfl, rfl, fun _ _ _ _ => rfl⟩, ⟨_, rfl, rfl, rfl⟩, ⟨_, rfl, rfl, rfl⟩, rfl, ⟨_, rfl, rfl⟩, trivial⟩) (Nat.zero_le _) fun i hi => ?_
  have o0 := o0 i
  conv => whnf
  refine bcase (fun (h : decide ((i : Int) < n) = true) => ?_) fun (h : decide ((i : Int) < n) = false) => ?_
  · have h := of_decide_eq_true h
    conv => whnf
    refine ⟨_, z0, ?_⟩
    conv => whnf
    refine ⟨by show i + 1 ≤ 16777216; omega, fun a b ha hb => ?_, ?_⟩
    · match a, b, ha, hb with
      | 0, 0, _, _ => exact ⟨rfl, fun h => by cases h⟩
    conv => whnf
    refine ⟨i64 (by omega) (by omega), ?_⟩
    conv => whnf
    exact ⟨i + 1, by omega, Weak.gen [some 0, some 1, some 2] rfl ⟨boxK rfl rfl, boxK rfl rfl, ⟨_, rfl, rfl, rfl, rfl, rfl, fun a b ha hb => regApp (t := fun _ => nql n fun _ => 0) ha hb (fun _ => regE rfl rfl) (regE rfl rfl)⟩, trivial⟩ ⟨.inl ⟨_, _, rfl, rfl, fun _ _ _ _ => rfl⟩, ⟨_, rfl, rfl, rfl⟩, ⟨_, rfl, rfl, rfl⟩, ⟨_, rfl, rfl, rfl⟩, ⟨_, rfl, rfl⟩, trivial⟩, by omega⟩
  · have h := of_decide_eq_false h
    have o0 := o0 (by omega)
    conv => whnf
    refine ⟨fun _ _ _ _ => rfl, ?_⟩
    conv => whnf
    refine ⟨_, o0, ?_⟩
    conv => whnf
    refine ⟨i64 (by omega) (by omega), ?_⟩
    conv => whnf
    refine loop_ints (fun t : Nat => gst [(0, .c (nql T F)), (3, .c (.p 0 0 3 0 0)), (4, .c (.p 1 0 3 0 0)), (7, .c (.p 2 0 3 0 0)), (8, .c (.int .i64 ((T : Int) - 1 - (t : Int))))] [⟨25, 3, 1, boxF (rmat n n p)⟩, ⟨25, 3, 1, boxF [.int .i64 0, .int .i64 0, .nil]⟩, ⟨25, 3, 1, boxF (matL n n (H t))⟩]) (fun t => T - t) (fun t => t ≤ T) 0 rfl (Weak.gen [some 0, some 1, some 3] rfl ⟨boxK rfl rfl, boxK rfl rfl, boxU rfl rfl rfl, trivial⟩ ⟨.inl ⟨_, _, rfl, rfl, fun _ _ _ _ => rfl⟩, ⟨_, rfl, rfl, rfl⟩, ⟨_, rfl, rfl, rfl⟩, ⟨_, rfl, rfl, rfl⟩, ⟨_, rfl, by omega⟩, trivial⟩) (Nat.zero_le _) fun t ht => ?_
    have m0 := m0 t
    have a0 := a0 t
    conv => whnf
    refine bcase (fun (h : decide ((0 : Int) ≤ (T : Int) - 1 - (t : Int)) = true) => ?_) fun (h : decide ((0 : Int) ≤ (T : Int) - 1 - (t : Int)) = false) => ?_
    · have h := of_decide_eq_true h
      have m0 := m0 (by omega)
      have a0 := a0 (by omega)
      conv => whnf
      refine ⟨_, m0, ?_⟩
      conv => whnf
      refine ⟨by omega, by show (T : Int) - 1 - (t : Int) < (T : Int); omega, ?_⟩
      conv => whnf
      refine ⟨_, i0, ?_⟩
      conv => whnf
      refine ⟨_, a0, ?_⟩
      conv => whnf
      refine ⟨i64 (by omega) (by omega), ?_⟩
      conv => whnf
      exact ⟨t + 1, by omega, Weak.gen [some 0, some 1, some 2] rfl ⟨boxK rfl rfl, boxK rfl rfl, boxU rfl rfl rfl, trivial⟩ ⟨.inl ⟨_, _, rfl, rfl, fun _ _ _ _ => rfl⟩, ⟨_, rfl, rfl, rfl⟩, ⟨_, rfl, rfl, rfl⟩, ⟨_, rfl, rfl, rfl⟩, ⟨_, rfl, by omega⟩, trivial⟩, by omega⟩
    · have h := of_decide_eq_false h
      have e : t = T := by omega
      have g : Sub (.g (matL n n (H t))) (.g (matL n n (H T))) := by rw [e]; exact Sub.refl _
      conv => whnf
      exact ⟨rfl, g⟩
end Rf
end Go.Proofs.YtigciplaoikcfaaGreat
/- The law's tests of matrices and lists of fractions. -/
namespace Go.Proofs.YtigciplaoikcfaaGreat
open Go.RowKit
namespace Rf
/-- A valid matrix. -/
def okm (r c : Int) (len : Nat) : Prop := 0 ≤ r ∧ r ≤ 1024 ∧ 0 ≤ c ∧ c ≤ 1024 ∧ (len : Int) = r * c
instance (r c : Int) (len : Nat) : Decidable (okm r c len) := by unfold okm; infer_instance
theorem okm_range {r c : Int} (h1 : 0 ≤ r) (h2 : r ≤ 1024) (h3 : 0 ≤ c) (h4 : c ≤ 1024) : inR .i64 (r * c) := by
  have h5 : r * c ≤ 1024 * 1024 := Int.mul_le_mul h2 h4 h3 (by omega)
  have h6 := Int.mul_nonneg h1 h3
  exact i64 (by omega) (by omega)
set_option maxHeartbeats 4000000 in
theorem rvalid_ok {r c : Int} {len : Nat} {f : Nat → Nat → Cell} : FnOK Tryz.prog true 27 [.g [.int .i64 r, .int .i64 c, .row 4 len f]] (.c (.bool (decide (okm r c len)))) := by
  refine fn_ok (E := E1) E1_ok Tryz.func27 rfl mixed (by kernel_rfl) (by kernel_rfl) ?_
  conv => whnf
  refine bcase (fun (h1 : decide (0 ≤ r) = true) => ?_) fun (h1 : decide (0 ≤ r) = false) => ?_
  · have h1 := of_decide_eq_true h1
    conv => whnf
    refine bcase (fun (h2 : decide (r ≤ 1024) = true) => ?_) fun (h2 : decide (r ≤ 1024) = false) => ?_
    · have h2 := of_decide_eq_true h2
      conv => whnf
      refine bcase (fun (h3 : decide (0 ≤ c) = true) => ?_) fun (h3 : decide (0 ≤ c) = false) => ?_
      · have h3 := of_decide_eq_true h3
        conv => whnf
        refine bcase (fun (h4 : decide (c ≤ 1024) = true) => ?_) fun (h4 : decide (c ≤ 1024) = false) => ?_
        · have h4 := of_decide_eq_true h4
          conv => whnf
          refine ⟨okm_range h1 h2 h3 h4, ?_⟩
          conv => whnf
          refine ⟨rfl, sub_bool ?_⟩
          show decide ((len : Int) = r * c) = _
          simp [okm, h1, h2, h3, h4]
        · have h4 := of_decide_eq_false h4
          conv => whnf
          refine ⟨rfl, sub_bool ?_⟩
          show false = _
          simp [okm, h4]
      · have h3 := of_decide_eq_false h3
        conv => whnf
        refine ⟨rfl, sub_bool ?_⟩
        show false = _
        simp [okm, h3]
    · have h2 := of_decide_eq_false h2
      conv => whnf
      refine ⟨rfl, sub_bool ?_⟩
      show false = _
      simp [okm, h2]
  · have h1 := of_decide_eq_false h1
    conv => whnf
    refine ⟨rfl, sub_bool ?_⟩
    show false = _
    simp [okm, h1]
/-- Numerator and denominator of at most one digit. -/
def shq (n : Nat) (q : Nat → RawR) : Prop := ∀ i, i < n → (q i).num.ds.length ≤ 1 ∧ (q i).den.ds.length ≤ 1
set_option maxHeartbeats 4000000 in
theorem short11_ok {n : Nat} {q : Nat → RawR} {r : Bool} (hn : n ≤ 9223372036854775807) (hr : r = true ↔ shq n q) : FnOK Tryz.prog true 7 [.c (ql n q)] (.c (.bool r)) := by
  have r1 : ∀ i, i < n → ¬ (q i).num.ds.length ≤ 1 → false = r := fun i hi a => (Bool.eq_false_iff.2 fun e => a (hr.1 e i hi).1).symm
  have r2 : ∀ i, i < n → ¬ (q i).den.ds.length ≤ 1 → false = r := fun i hi a => (Bool.eq_false_iff.2 fun e => a (hr.1 e i hi).2).symm
  have r3 : shq n q → true = r := fun a => (hr.2 a).symm
  clear hr
  refine fn_ok (E := E1) E1_ok Tryz.func7 rfl mixed (by kernel_rfl) (by kernel_rfl) ?_
  conv => whnf
  refine loop_ints (fun i : Nat => gst [(0, .c (ql n q)), (3, .c (.int .i64 i))] []) (fun i => n - i) (fun i => i ≤ n ∧ ∀ j, j < i → (q j).num.ds.length ≤ 1 ∧ (q j).den.ds.length ≤ 1) 0 rfl (Weak.gen [] rfl trivial ⟨.inl ⟨_, _, rfl, rfl, fun _ _ _ _ => rfl⟩, ⟨_, rfl, rfl⟩, trivial⟩) ⟨Nat.zero_le _, fun j h => absurd h (Nat.not_lt_zero j)⟩ fun i ⟨hi, hh⟩ => ?_
  have r1 := r1 i
  have r2 := r2 i
  conv => whnf
  refine bcase (fun (h : decide ((i : Int) < n) = true) => ?_) fun (h : decide ((i : Int) < n) = false) => ?_
  · have h := of_decide_eq_true h
    have r1 := r1 (by omega)
    have r2 := r2 (by omega)
    conv => whnf
    refine ⟨by omega, by omega, ?_⟩
    conv => whnf
    refine bcase (fun (a1 : gw false (decide ((1 : Int) < (q i).num.ds.length)) = true) => ?_) fun (a1 : gw false (decide ((1 : Int) < (q i).num.ds.length)) = false) => ?_
    · have a1 := of_decide_eq_false (gwf a1)
      conv => whnf
      refine ⟨by omega, by omega, ?_⟩
      conv => whnf
      refine bcase (fun (a2 : decide ((1 : Int) < (q i).den.ds.length) = true) => ?_) fun (a2 : decide ((1 : Int) < (q i).den.ds.length) = false) => ?_
      · have a2 := of_decide_eq_true a2
        have g := r2 (by omega)
        conv => whnf
        exact ⟨rfl, sub_bool g⟩
      · have a2 := of_decide_eq_false a2
        conv => whnf
        refine ⟨i64 (by omega) (by omega), ?_⟩
        conv => whnf
        refine ⟨i + 1, by omega, Weak.gen [] rfl trivial ⟨.inl ⟨_, _, rfl, rfl, fun _ _ _ _ => rfl⟩, ⟨_, rfl, rfl⟩, trivial⟩, by omega, fun j hj => ?_⟩
        by_cases e : j = i
        · rw [e]; exact ⟨by omega, by omega⟩
        · exact hh j (by omega)
    · have a1 := of_decide_eq_true (gwf' a1)
      have g := r1 (by omega)
      conv => whnf
      exact ⟨rfl, sub_bool g⟩
  · have h := of_decide_eq_false h
    have g := r3 fun j hj => hh j (by omega)
    conv => whnf
    exact ⟨rfl, sub_bool g⟩
/-- One type more than the table has. -/
noncomputable def E1v : Env := ⟨Tryz.prog, true, fun T => if T == 57 then some ⟨false, 1, [.nil], 24, [], some 25, none, 0⟩ else tyE T, 0⟩
theorem tyV : tyOf Tryz.prog 57 = some ⟨false, 1, [.nil], 24, [], some 25, none, 0⟩ := by kernel_rfl
theorem E1v_ok : EnvOK E1v := ⟨fun T ti h => by
  by_cases e : T = 57
  · subst e
    have h : some (⟨false, 1, [.nil], 24, [], some 25, none, 0⟩ : TI) = some ti := h
    cases h
    exact tyV
  · have h2 : (if T == 57 then some (⟨false, 1, [.nil], 24, [], some 25, none, 0⟩ : TI) else tyE T) = some ti := h
    rw [if_neg (by simpa using e)] at h2
    exact tyE_ok T ti h2⟩
/-- What the law asks of a matrix. -/
def lite11 (m : Int) (r c : Int) (len : Nat) (q : Nat → RawR) : Prop := okm r c len ∧ r = c ∧ r ≤ m ∧ shq len q
abbrev oneM (r c : Int) (len : Nat) (q : Nat → RawR) : V := .c (.row 3 1 (rowF 3 [.int .i64 r, .int .i64 c, ql len q]))
set_option maxHeartbeats 4000000 in
theorem light11_a {m r c : Int} {len : Nat} {q : Nat → RawR} (v0 : FnOK Tryz.prog true 27 [.g [.int .i64 r, .int .i64 c, ql len q]] (.c (.bool false))) : FnOK Tryz.prog true 6 [.c (.int .i64 m), oneM r c len q] (.c (.bool false)) := by
  refine fn_okS (E := E1v) E1v_ok Tryz.func6 rfl (by kernel_rfl) ?_
  refine swp_seq0 E1v_ok mixed (by kernel_rfl) ?_
  conv => whnf
  refine swp_seqS ?_
  refine swp_seq0 E1v_ok mixed (by kernel_rfl) ?_
  conv => whnf
  refine swp_block ?_
  refine swp_loop (fun i : Nat => gst [(0, .c (.int .i64 m)), (1, oneM r c len q), (5, .c (.int .i64 i))] []) (fun i => 1 - i) (fun i => i ≤ 0) 0 (Weak.gen [] rfl trivial ⟨⟨_, rfl, rfl⟩, .inl ⟨_, _, rfl, rfl, fun _ _ _ _ => rfl⟩, ⟨_, rfl, rfl⟩, trivial⟩) (Nat.zero_le _) fun i hi => ?_
  match i, hi with
  | 0, _ =>
    refine swp_seq0 E1v_ok mixed (by kernel_rfl) ?_
    conv => whnf
    refine swp_seqS (swp_block ?_)
    refine swp_seq0 E1v_ok mixed (by kernel_rfl) ?_
    conv => whnf
    refine ⟨by decide, by decide, ?_⟩
    conv => whnf
    refine ⟨_, v0, ?_⟩
    conv => whnf
    refine swp_of E1v_ok mixed (by kernel_rfl) ?_
    conv => whnf
    exact ⟨rfl, Sub.refl _⟩
set_option maxHeartbeats 4000000 in
theorem light11_b {m r c : Int} {len : Nat} {q : Nat → RawR} (v0 : FnOK Tryz.prog true 27 [.g [.int .i64 r, .int .i64 c, ql len q]] (.c (.bool true))) (h2 : r ≠ c) : FnOK Tryz.prog true 6 [.c (.int .i64 m), oneM r c len q] (.c (.bool false)) := by
  refine fn_okS (E := E1v) E1v_ok Tryz.func6 rfl (by kernel_rfl) ?_
  refine swp_seq0 E1v_ok mixed (by kernel_rfl) ?_
  conv => whnf
  refine swp_seqS ?_
  refine swp_seq0 E1v_ok mixed (by kernel_rfl) ?_
  conv => whnf
  refine swp_block ?_
  refine swp_loop (fun i : Nat => gst [(0, .c (.int .i64 m)), (1, oneM r c len q), (5, .c (.int .i64 i))] []) (fun i => 1 - i) (fun i => i ≤ 0) 0 (Weak.gen [] rfl trivial ⟨⟨_, rfl, rfl⟩, .inl ⟨_, _, rfl, rfl, fun _ _ _ _ => rfl⟩, ⟨_, rfl, rfl⟩, trivial⟩) (Nat.zero_le _) fun i hi => ?_
  match i, hi with
  | 0, _ =>
    refine swp_seq0 E1v_ok mixed (by kernel_rfl) ?_
    conv => whnf
    refine swp_seqS (swp_block ?_)
    refine swp_seq0 E1v_ok mixed (by kernel_rfl) ?_
    conv => whnf
    refine ⟨by decide, by decide, ?_⟩
    conv => whnf
    refine ⟨_, v0, ?_⟩
    conv => whnf
    refine ⟨by decide, by decide, ?_⟩
    conv => whnf
    refine ⟨by decide, by decide, ?_⟩
    conv => whnf
    refine bneg (gw_false.2 (show (!decide (r = c)) = true by simp [h2])) ?_
    conv => whnf
    refine swp_of E1v_ok mixed (by kernel_rfl) ?_
    conv => whnf
    exact ⟨rfl, Sub.refl _⟩
set_option maxHeartbeats 4000000 in
theorem light11_c {m r c : Int} {len : Nat} {q : Nat → RawR} (v0 : FnOK Tryz.prog true 27 [.g [.int .i64 r, .int .i64 c, ql len q]] (.c (.bool true))) (h2 : r = c) (h3 : m < r) : FnOK Tryz.prog true 6 [.c (.int .i64 m), oneM r c len q] (.c (.bool false)) := by
  refine fn_okS (E := E1v) E1v_ok Tryz.func6 rfl (by kernel_rfl) ?_
  refine swp_seq0 E1v_ok mixed (by kernel_rfl) ?_
  conv => whnf
  refine swp_seqS ?_
  refine swp_seq0 E1v_ok mixed (by kernel_rfl) ?_
  conv => whnf
  refine swp_block ?_
  refine swp_loop (fun i : Nat => gst [(0, .c (.int .i64 m)), (1, oneM r c len q), (5, .c (.int .i64 i))] []) (fun i => 1 - i) (fun i => i ≤ 0) 0 (Weak.gen [] rfl trivial ⟨⟨_, rfl, rfl⟩, .inl ⟨_, _, rfl, rfl, fun _ _ _ _ => rfl⟩, ⟨_, rfl, rfl⟩, trivial⟩) (Nat.zero_le _) fun i hi => ?_
  match i, hi with
  | 0, _ =>
    refine swp_seq0 E1v_ok mixed (by kernel_rfl) ?_
    conv => whnf
    refine swp_seqS (swp_block ?_)
    refine swp_seq0 E1v_ok mixed (by kernel_rfl) ?_
    conv => whnf
    refine ⟨by decide, by decide, ?_⟩
    conv => whnf
    refine ⟨_, v0, ?_⟩
    conv => whnf
    refine ⟨by decide, by decide, ?_⟩
    conv => whnf
    refine ⟨by decide, by decide, ?_⟩
    conv => whnf
    refine bpos (gw_true.2 (show (!decide (r = c)) = false by simp [h2])) ?_
    conv => whnf
    refine ⟨by decide, by decide, ?_⟩
    conv => whnf
    refine bneg (gw_false.2 (show decide (m < r) = true from decide_eq_true h3)) ?_
    conv => whnf
    refine swp_of E1v_ok mixed (by kernel_rfl) ?_
    conv => whnf
    exact ⟨rfl, Sub.refl _⟩
set_option maxHeartbeats 4000000 in
theorem light11_d {m r c : Int} {len : Nat} {q : Nat → RawR} (v0 : FnOK Tryz.prog true 27 [.g [.int .i64 r, .int .i64 c, ql len q]] (.c (.bool true))) (s0 : FnOK Tryz.prog true 7 [.c (ql len q)] (.c (.bool false))) (h2 : r = c) (h3 : r ≤ m) : FnOK Tryz.prog true 6 [.c (.int .i64 m), oneM r c len q] (.c (.bool false)) := by
  refine fn_okS (E := E1v) E1v_ok Tryz.func6 rfl (by kernel_rfl) ?_
  refine swp_seq0 E1v_ok mixed (by kernel_rfl) ?_
  conv => whnf
  refine swp_seqS ?_
  refine swp_seq0 E1v_ok mixed (by kernel_rfl) ?_
  conv => whnf
  refine swp_block ?_
  refine swp_loop (fun i : Nat => gst [(0, .c (.int .i64 m)), (1, oneM r c len q), (5, .c (.int .i64 i))] []) (fun i => 1 - i) (fun i => i ≤ 0) 0 (Weak.gen [] rfl trivial ⟨⟨_, rfl, rfl⟩, .inl ⟨_, _, rfl, rfl, fun _ _ _ _ => rfl⟩, ⟨_, rfl, rfl⟩, trivial⟩) (Nat.zero_le _) fun i hi => ?_
  match i, hi with
  | 0, _ =>
    refine swp_seq0 E1v_ok mixed (by kernel_rfl) ?_
    conv => whnf
    refine swp_seqS (swp_block ?_)
    refine swp_seq0 E1v_ok mixed (by kernel_rfl) ?_
    conv => whnf
    refine ⟨by decide, by decide, ?_⟩
    conv => whnf
    refine ⟨_, v0, ?_⟩
    conv => whnf
    refine ⟨by decide, by decide, ?_⟩
    conv => whnf
    refine ⟨by decide, by decide, ?_⟩
    conv => whnf
    refine bpos (gw_true.2 (show (!decide (r = c)) = false by simp [h2])) ?_
    conv => whnf
    refine ⟨by decide, by decide, ?_⟩
    conv => whnf
    refine bpos (gw_true.2 (show decide (m < r) = false from decide_eq_false (by omega))) ?_
    conv => whnf
    refine ⟨by decide, by decide, ?_⟩
    conv => whnf
    refine ⟨_, s0, ?_⟩
    conv => whnf
    refine swp_of E1v_ok mixed (by kernel_rfl) ?_
    conv => whnf
    exact ⟨rfl, Sub.refl _⟩
set_option maxHeartbeats 4000000 in
theorem light11_e {m r c : Int} {len : Nat} {q : Nat → RawR} (v0 : FnOK Tryz.prog true 27 [.g [.int .i64 r, .int .i64 c, ql len q]] (.c (.bool true))) (s0 : FnOK Tryz.prog true 7 [.c (ql len q)] (.c (.bool true))) (h2 : r = c) (h3 : r ≤ m) : FnOK Tryz.prog true 6 [.c (.int .i64 m), oneM r c len q] (.c (.bool true)) := by
  refine fn_okS (E := E1v) E1v_ok Tryz.func6 rfl (by kernel_rfl) ?_
  refine swp_seq0 E1v_ok mixed (by kernel_rfl) ?_
  conv => whnf
  refine swp_seqS ?_
  refine swp_seq0 E1v_ok mixed (by kernel_rfl) ?_
  conv => whnf
  refine swp_block ?_
  refine swp_loop (fun i : Nat => gst [(0, .c (.int .i64 m)), (1, oneM r c len q), (5, .c (.int .i64 i))] []) (fun i => 1 - i) (fun i => i ≤ 1) 0 (Weak.gen [] rfl trivial ⟨⟨_, rfl, rfl⟩, .inl ⟨_, _, rfl, rfl, fun _ _ _ _ => rfl⟩, ⟨_, rfl, rfl⟩, trivial⟩) (Nat.zero_le _) fun i hi => ?_
  match i, hi with
  | 0, _ =>
    refine swp_seq0 E1v_ok mixed (by kernel_rfl) ?_
    conv => whnf
    refine swp_seqS (swp_block ?_)
    refine swp_seq0 E1v_ok mixed (by kernel_rfl) ?_
    conv => whnf
    refine ⟨by decide, by decide, ?_⟩
    conv => whnf
    refine ⟨_, v0, ?_⟩
    conv => whnf
    refine ⟨by decide, by decide, ?_⟩
    conv => whnf
    refine ⟨by decide, by decide, ?_⟩
    conv => whnf
    refine bpos (gw_true.2 (show (!decide (r = c)) = false by simp [h2])) ?_
    conv => whnf
    refine ⟨by decide, by decide, ?_⟩
    conv => whnf
    refine bpos (gw_true.2 (show decide (m < r) = false from decide_eq_false (by omega))) ?_
    conv => whnf
    refine ⟨by decide, by decide, ?_⟩
    conv => whnf
    refine ⟨_, s0, ?_⟩
    conv => whnf
    refine swp_of E1v_ok mixed (by kernel_rfl) ?_
    conv => whnf
    refine swp_of E1v_ok mixed (by kernel_rfl) ?_
    conv => whnf
    refine ⟨i64 (by decide) (by decide), ?_⟩
    conv => whnf
    exact ⟨1, by decide, Weak.gen [] rfl trivial ⟨⟨_, rfl, rfl⟩, .inl ⟨_, _, rfl, rfl, fun _ _ _ _ => rfl⟩, ⟨_, rfl, rfl⟩, trivial⟩, by decide⟩
  | 1, _ =>
    refine swp_seq0 E1v_ok mixed (by kernel_rfl) ?_
    conv => whnf
    refine swp_of E1v_ok mixed (by kernel_rfl) ?_
    conv => whnf
    exact ⟨rfl, Sub.refl _⟩
open Classical in
theorem light11_ok {m r c : Int} {len : Nat} {q : Nat → RawR} (hn : len ≤ 9223372036854775807) : FnOK Tryz.prog true 6 [.c (.int .i64 m), oneM r c len q] (.c (.bool (decide (lite11 m r c len q)))) := by
  have v0 := rvalid_ok (r := r) (c := c) (len := len) (f := qlF q)
  have s0 := short11_ok (n := len) (q := q) (r := decide (shq len q)) hn ⟨fun a => of_decide_eq_true a, fun a => decide_eq_true a⟩
  by_cases h1 : okm r c len
  · rw [decide_eq_true h1] at v0
    by_cases h2 : r = c
    · by_cases h3 : r ≤ m
      · by_cases h4 : shq len q
        · rw [decide_eq_true h4] at s0
          rw [decide_eq_true (show lite11 m r c len q from ⟨h1, h2, h3, h4⟩)]
          exact light11_e v0 s0 h2 h3
        · rw [decide_eq_false h4] at s0
          rw [decide_eq_false (fun e : lite11 m r c len q => h4 e.2.2.2)]
          exact light11_d v0 s0 h2 h3
      · rw [decide_eq_false (fun e : lite11 m r c len q => h3 e.2.2.1)]
        exact light11_c v0 h2 (by omega)
    · rw [decide_eq_false (fun e : lite11 m r c len q => h2 e.2.1)]
      exact light11_b v0 h2
  · rw [decide_eq_false h1] at v0
    rw [decide_eq_false (fun e : lite11 m r c len q => h1 e.1)]
    exact light11_a v0
end Rf
end Go.Proofs.YtigciplaoikcfaaGreat
/- Polynomials at matrices: how long the fractions get; the law's calls and what they hand back. -/
namespace Go.Proofs.YtigciplaoikcfaaGreat
open Go.RowKit
theorem su_sm (f : Nat → Rat) : ∀ n, Q.su f n = sm n f
  | 0 => rfl
  | n + 1 => by
    show Q.su f n + f n = sm n f + f n
    rw [su_sm f n]
theorem lt_B {e L : Nat} (h : e < 32 * L) : 2 ^ e < Dg.B ^ L := by
  have h1 : Dg.B ^ L = 2 ^ (32 * L) := (Nat.pow_mul 2 32 L).symm
  rw [h1]
  exact Nat.pow_lt_pow_right (by decide) h
theorem fits_len {D N e : Nat} {x : Rat} (h : Fits D N x) (h0 : 0 < D) (hD : D ≤ 2 ^ e) (hN : N ≤ 2 ^ e) (he : e < 2097120) : qlen x ≤ 65535 := by
  have h1 := h.small h0
  have hB := lt_B (e := e) (L := 65535) (by omega)
  have a : zlen x.num ≤ 65535 := zlen_le (Nat.lt_of_le_of_lt (Nat.le_trans h1.1 hN) hB)
  have b : zlen (x.den : Int) ≤ 65535 := zlen_le (Nat.lt_of_le_of_lt (Nat.le_trans h1.2 hD) hB)
  show max (zlen x.num) (zlen (x.den : Int)) ≤ 65535
  omega
theorem le_two {a b : Nat} (h : a ≤ b) : 2 ^ a ≤ 2 ^ b := Nat.pow_le_pow_right (by decide) h
theorem pow_le_two {D a t : Nat} (h : D ≤ 2 ^ a) : D ^ t ≤ 2 ^ (a * t) := by
  rw [Nat.pow_mul]
  exact Nat.pow_le_pow_left h t
theorem mul_le_two {D E a b : Nat} (h : D ≤ 2 ^ a) (h' : E ≤ 2 ^ b) : D * E ≤ 2 ^ (a + b) := by
  rw [Nat.pow_add]
  exact Nat.mul_le_mul h h'
/-- Horner's matrices, from the top. -/
def hrn (n T : Nat) (F : Nat → Rat) (A : Nat → Nat → Rat) (t : Nat) : Nat → Nat → Rat := horner n A t fun i => F (T - t + i)
theorem hrn_hor (n T : Nat) (F : Nat → Rat) (A : Nat → Nat → Rat) : Rf.Hor n T F A (hrn n T F A) := by
  refine ⟨rfl, fun t i j ht => ?_⟩
  show horner n A (t + 1) (fun i => F (T - (t + 1) + i)) i j = Q.su (fun k => hrn n T F A t i k * A k j) n + F (T - 1 - t) * mone i j
  rw [su_sm]
  have e : (fun i => F (T - (t + 1) + (i + 1))) = fun i => F (T - t + i) := funext fun i => by rw [show T - (t + 1) + (i + 1) = T - t + i by omega]
  show sm n (fun k => horner n A t (fun i => F (T - (t + 1) + (i + 1))) i k * A k j) + F (T - (t + 1) + 0) * mone i j = _
  rw [e, show T - (t + 1) + 0 = T - 1 - t by omega]
  rfl
theorem hrn_fits {n Da Df ea ef T : Nat} {A : Nat → Nat → Rat} {F : Nat → Rat} (hn : n ≤ 4) (hA : ∀ i j, i < n → j < n → Fits Da (2 ^ ea) (A i j)) (h0 : 0 < Da) (h1 : Da ≤ 2 ^ ea) (hF : ∀ i, i < T → Fits Df (2 ^ ef) (F i)) (t : Nat) (ht : t ≤ T) (i j : Nat) (hi : i < n) (hj : j < n) : Fits (Df * Da ^ t) (2 ^ (ef + (3 + ea) * t)) (hrn n T F A t i j) := by
  refine (horner_fits hn hA h0 h1 t _ (fun i hi => hF _ (by omega)) i j hi hj).mono (mul_le_two (Nat.le_refl _) (pow_le_two ?_))
  rw [Nat.pow_add]
  exact Nat.mul_le_mul_right _ (by decide)
theorem hrn_len {n Da Df ea ef T : Nat} {A : Nat → Nat → Rat} {F : Nat → Rat} (hn : n ≤ 4) (hA : ∀ i j, i < n → j < n → Fits Da (2 ^ ea) (A i j)) (h0 : 0 < Da) (h1 : Da ≤ 2 ^ ea) (hF : ∀ i, i < T → Fits Df (2 ^ ef) (F i)) (g0 : 0 < Df) (g1 : Df ≤ 2 ^ ef) (hT : T ≤ 65) (hea : ea ≤ 600) (hef : ef ≤ 10000) : (∀ t i j, t ≤ T → i < n → j < n → qlen (hrn n T F A t i j) ≤ 65535) ∧ ∀ t r i j, t < T → r < n → i ≤ n → j < n → qlen (Rf.sumR (hrn n T F A t r) A i j) ≤ 65535 := by
  have hb : ∀ t, t ≤ T → ef + (3 + ea) * t ≤ 60000 := fun t ht => by
    have := Nat.mul_le_mul (show 3 + ea ≤ 603 by omega) (show t ≤ 65 by omega)
    omega
  have hd : ∀ t, t ≤ T → 0 < Df * Da ^ t ∧ Df * Da ^ t ≤ 2 ^ (ef + (3 + ea) * t) := fun t _ => ⟨Nat.mul_pos g0 (Nat.pow_pos h0), mul_le_two g1 (pow_le_two (Nat.le_trans h1 (le_two (by omega))))⟩
  refine ⟨fun t i j ht hi hj => fits_len (hrn_fits hn hA h0 h1 hF t ht i j hi hj) (hd t ht).1 (hd t ht).2 (Nat.le_refl _) (by have := hb t ht; omega), fun t r i j ht hr hi hj => ?_⟩
  have hs : Fits (Df * Da ^ t * Da) (i * (2 ^ (ef + (3 + ea) * t) * 2 ^ ea)) (Rf.sumR (hrn n T F A t r) A i j) := by
    show Fits _ _ (Q.su (fun k => hrn n T F A t r k * A k j) i)
    rw [su_sm]
    exact fits_sm i fun k hk => (hrn_fits hn hA h0 h1 hF t (by omega) r k hr (by omega)).mul (hA k j (by omega) hj)
  have hb := hb t (by omega)
  have hd := hd t (by omega)
  refine fits_len (e := 3 + (ef + (3 + ea) * t + ea)) hs (Nat.mul_pos hd.1 h0) (Nat.le_trans (mul_le_two hd.2 h1) (le_two (by omega))) (mul_le_two (show i ≤ 2 ^ 3 by omega) (mul_le_two (Nat.le_refl _) (Nat.le_refl _))) (by omega)
/-- Fractions of one digit each, over one denominator. -/
theorem short_fits {n : Nat} {q : Nat → RawR} (hd : ∀ i, i < n → Rf.dgq (q i)) (hs : Rf.shq n q) : ∃ D, 0 < D ∧ D ≤ 2 ^ (32 * n) ∧ ∀ i, i < n → Fits D (2 ^ (32 * n)) (q i).val := by
  have h : ∀ i, i < n → (q i).val.num.natAbs ≤ 2 ^ 32 ∧ (q i).val.den ≤ 2 ^ 32 := fun i hi => by
    have f : (q i).Fit 1 := ⟨(hd i hi).1, (hd i hi).2, (hs i hi).1, (hs i hi).2⟩
    have g : max (zlen (q i).val.num) (zlen ((q i).val.den : Int)) ≤ 1 := f.qlen (Nat.le_refl _)
    have a := zlen_lt (q i).val.num
    have b := zlen_lt ((q i).val.den : Int)
    have a' := Nat.lt_of_lt_of_le a (Nat.pow_le_pow_right (show 0 < Dg.B by decide) (show zlen (q i).val.num ≤ 1 by omega))
    have b' := Nat.lt_of_lt_of_le b (Nat.pow_le_pow_right (show 0 < Dg.B by decide) (show zlen ((q i).val.den : Int) ≤ 1 by omega))
    rw [Nat.pow_one] at a' b'
    have e : Dg.B = 2 ^ 32 := rfl
    rw [e] at a' b'
    rw [Int.natAbs_natCast] at b'
    exact ⟨Nat.le_of_lt a', Nat.le_of_lt b'⟩
  refine ⟨dens n fun i => (q i).val, dens_pos _ _, ?_, fun i hi => ?_⟩
  · rw [Nat.pow_mul]
    exact dens_le fun i hi => (h i hi).2
  · rw [Nat.pow_mul]
    exact fits_dens (f := fun i => (q i).val) h i hi
theorem fit_kd {n : Nat} {q : Nat → RawR} (hd : ∀ i, i < n → Rf.dgq (q i)) (hs : Rf.shq n q) (i : Nat) (hi : i < n) : (q i).Fit Rf.KD := ⟨(hd i hi).1, (hd i hi).2, Nat.le_trans (hs i hi).1 (by decide), Nat.le_trans (hs i hi).2 (by decide)⟩
theorem fit_wq {n : Nat} {q : Nat → RawR} (hd : ∀ i, i < n → Rf.dgq (q i)) (hs : Rf.shq n q) (i : Nat) (hi : i < n) : Rf.wq (q i) := by
  have f : (q i).Fit 1 := ⟨(hd i hi).1, (hd i hi).2, (hs i hi).1, (hs i hi).2⟩
  have z1 := f.zn
  have z2 := f.zd
  have l1 := (hs i hi).1
  have l2 := (hs i hi).2
  exact ⟨⟨⟨(hd i hi).1, by omega⟩, ⟨(hd i hi).2, by omega⟩⟩, by omega, by omega⟩
theorem fit_q1 {n : Nat} {q : Nat → RawR} (hd : ∀ i, i < n → Rf.dgq (q i)) (hs : Rf.shq n q) (i : Nat) (hi : i < n) : qlen (q i).val ≤ 1 := by
  have f : (q i).Fit 1 := ⟨(hd i hi).1, (hd i hi).2, (hs i hi).1, (hs i hi).2⟩
  exact f.qlen (Nat.le_refl _)
namespace Rf
/-- A matrix that the law's test lets by. -/
structure Sq (n : Nat) (p : Nat → RawR) (A : Nat → Nat → Rat) : Prop where
  low : n ≤ 4
  fit : ∀ a, a < n * n → (p a).Fit KD
  wqs : ∀ a, a < n * n → wq (p a)
  val : ∀ i j, i < n → j < n → (p (i * n + j)).val = A i j
  len : ∀ i j, i < n → j < n → qlen (A i j) ≤ 65535
  fits : ∃ Da, 0 < Da ∧ Da ≤ 2 ^ 512 ∧ ∀ i j, i < n → j < n → Fits Da (2 ^ 512) (A i j)
theorem sq_of {n : Nat} {p : Nat → RawR} (hn : n ≤ 4) (hd : ∀ a, a < n * n → dgq (p a)) (hs : shq (n * n) p) : Sq n p fun i j => (p (i * n + j)).val := by
  have lt : ∀ i j, i < n → j < n → i * n + j < n * n := fun i j hi hj => (mat_idx hi hj).1
  obtain ⟨D, h1, h2, h3⟩ := short_fits hd hs
  have hnn : n * n ≤ 16 := Nat.mul_le_mul hn hn
  exact ⟨hn, fit_kd hd hs, fit_wq hd hs, fun _ _ _ _ => rfl, fun i j hi hj => Nat.le_trans (fit_q1 hd hs _ (lt i j hi hj)) (by decide), D, h1, Nat.le_trans h2 (le_two (a := 32 * (n * n)) (b := 512) (by omega)), fun i j hi hj => (h3 _ (lt i j hi hj)).mono (le_two (a := 32 * (n * n)) (b := 512) (by omega))⟩
/-- A polynomial at such a matrix, by both sides. -/
theorem both_at {n N T Df ef : Nat} {q p : Nat → RawR} {F : Nat → Rat} {A : Nat → Nat → Rat} (hA : Sq n p A) (hN : N ≤ 1024) (hqF : (fun i => (q i).val) = F) (hT : Q.tq F N = T) (hT64 : T ≤ 65) (hq : ∀ i, i < N → (q i).Fit KD) (hF : ∀ i, i < T → Fits Df (2 ^ ef) (F i)) (g0 : 0 < Df) (g1 : Df ≤ 2 ^ ef) (hef : ef ≤ 10000) :
    (∀ i j, i < n → j < n → qlen (hrn n T F A T i j) ≤ 65535) ∧ FnOK Tryz.prog true 8 [.c (ql N q), .g (rmat n n p)] (.t2 (.g (matL n n (hrn n T F A T))) (.c (.int .i64 0))) ∧ FnOK Tryz.prog false 12 [.c (nql T F), .g (rmat n n p)] (.g (matL n n (hrn n T F A T))) := by
  obtain ⟨Da, d0, d1, d2⟩ := hA.fits
  obtain ⟨l1, l2⟩ := hrn_len (ea := 512) hA.low d2 d0 d1 hF g0 g1 hT64 (by decide) hef
  have lF : ∀ i, i < T → qlen (F i) ≤ 65535 := fun i hi => fits_len (hF i hi) g0 g1 (Nat.le_refl _) (by omega)
  have hk : 65535 ≤ KD := by decide
  refine ⟨fun i j hi hj => l1 T i j (Nat.le_refl _) hi hj, ?_, ?_⟩
  · exact at_ok hA.low hN hqF hT hT64 hq hA.fit hA.val (fun i j hi hj => Nat.le_trans (hA.len i j hi hj) hk) (fun i hi => Nat.le_trans (lF i hi) hk) (fun t i j ht hi hj => Nat.le_trans (l1 t i j ht hi hj) hk) (fun t r i j ht hr hi hj => Nat.le_trans (l2 t r i j ht hr hi hj) hk) (hrn_hor n T F A)
  · exact rat_ok hA.low hT64 hA.wqs hA.val hA.len lF l1 l2 (hrn_hor n T F A)
end Rf
end Go.Proofs.YtigciplaoikcfaaGreat
/- The law CharpolyEvaluates: its calls, one behind the other, and what they hand back. -/
namespace Go.Proofs.YtigciplaoikcfaaGreat
open Go.RowKit
/-- Fractions over one denominator, and nothing behind their end. -/
structure Pol (N : Nat) (q : Nat → RawR) (F : Nat → Rat) (D e : Nat) : Prop where
  val : Q.qx N (fun i => (q i).val) = F
  fit : ∀ i, i < N → (q i).Fit Rf.KD
  wqs : ∀ i, i < N → Rf.wq (q i)
  pos : 0 < D
  low : D ≤ 2 ^ e
  fits : ∀ i, Fits D (2 ^ e) (F i)
theorem pol_of {N : Nat} {q : Nat → RawR} (hd : ∀ i, i < N → Rf.dgq (q i)) (hs : Rf.shq N q) : ∃ D, Pol N q (Q.qx N fun i => (q i).val) D (32 * N) := by
  obtain ⟨D, h1, h2, h3⟩ := short_fits hd hs
  refine ⟨D, rfl, fit_kd hd hs, fit_wq hd hs, h1, h2, fun i => ?_⟩
  unfold Q.qx
  split
  · rename_i hi
    exact h3 i hi
  · exact Fits.zero _ _
theorem Pol.fin {N : Nat} {q : Nat → RawR} {F : Nat → Rat} {D e : Nat} (h : Pol N q F D e) : Q.Fin N F := by rw [← h.val]; exact Q.qx_fin _ _
theorem Pol.len {N : Nat} {q : Nat → RawR} {F : Nat → Rat} {D e : Nat} (h : Pol N q F D e) (he : e ≤ 10000) (i : Nat) : qlen (F i) ≤ 65535 := fits_len (h.fits i) h.pos h.low (Nat.le_refl _) (by omega)
theorem Pol.tq {N : Nat} {q : Nat → RawR} {F : Nat → Rat} {D e : Nat} (h : Pol N q F D e) : Q.tq (fun i => (q i).val) N = Q.tq F N := Q.tq_congr fun i hi => by
  rw [← h.val]
  exact (Q.qx_lt (v := fun i => (q i).val) hi).symm
theorem hrn_all {n T : Nat} {F : Nat → Rat} {A : Nat → Nat → Rat} : hrn n T F A T = horner n A T F := horner_congr fun i _ => by rw [Nat.sub_self, Nat.zero_add]
theorem cf_pm (F G : Nat → Rat) : Q.cf F G = pmul F G := funext fun _ => su_sm _ _
/-- **A polynomial at a matrix is a homomorphism.** -/
theorem hom {n N M T Tg K : Nat} {F G : Nat → Rat} {A : Nat → Nat → Rat} (fF : Q.Fin N F) (fG : Q.Fin M G) (hT : Q.tq F N = T) (hTg : Q.tq G M = Tg) (hK : Q.tq (Q.cf F G) (N + M) = K) (i j : Nat) (hi : i < n) (hj : j < n) : hrn n K (Q.cf F G) A K i j = Rf.sumR (hrn n T F A T i) (hrn n Tg G A Tg) n j := by
  have f1 : Q.Fin T F := by rw [← hT]; exact Q.tq_fin fF
  have f2 : Q.Fin Tg G := by rw [← hTg]; exact Q.tq_fin fG
  have lT : T ≤ N := by rw [← hT]; exact Q.tq_le _ _
  have lG : Tg ≤ M := by rw [← hTg]; exact Q.tq_le _ _
  have lK : K ≤ N + M := by rw [← hK]; exact Q.tq_le _ _
  have f3 : Q.Fin K (Q.cf F G) := by rw [← hK]; exact Q.tq_fin (fF.cf fG)
  rw [hrn_all, hrn_all, hrn_all]
  have e1 : horner n A (N + M) (Q.cf F G) = horner n A K (Q.cf F G) := horner_more lK fun i hi _ => f3 i hi
  have e2 : horner n A N F = horner n A T F := horner_more lT fun i hi _ => f1 i hi
  have e3 : horner n A M G = horner n A Tg G := horner_more lG fun i hi _ => f2 i hi
  have h := horner_mul n A N M (N + M) F G fF fG (by omega) i j hi hj
  rw [← cf_pm, e1, e2, e3] at h
  rw [h]
  show sm n (fun k => horner n A T F i k * horner n A Tg G k j) = Q.su (fun k => horner n A T F i k * horner n A Tg G k j) n
  rw [su_sm]
theorem matL_eq {n m : Nat} {Z W : Nat → Nat → Rat} (h : ∀ i j, i < n → j < m → Z i j = W i j) (D : Nat → Prop) (w : World) (v : Value) (hv : VRel D w [] (.g (matL n m Z)) v) : VRel D w [] (.g (matL n m W)) v := by
  obtain ⟨vs, e, h1⟩ := hv
  refine ⟨vs, e, ?_⟩
  match vs.toList, h1 with
  | [a, b, c], ⟨g1, g2, g3, _⟩ =>
    refine ⟨g1, g2, subRowG rfl (fun k l hk hl => ?_) D w c g3, trivial⟩
    have hk := Rf.mat_lt hk
    exact qlF_eq (c := fun k => ofR (Z (k / m) (k % m))) (e := fun k => ofR (W (k / m) (k % m))) (i := k) (k := k) (congrArg ofR (h _ _ hk.1 hk.2))
namespace Rf
/-- What the law's calls hand back. -/
structure CallsCe (n N M T K : Nat) (q g p : Nat → RawR) (F C : Nat → Rat) (X Y Z W : Nat → Nat → Rat) : Prop where
  k1 : FnOK Tryz.prog true 8 [.c (ql N q), .g (rmat n n p)] (.t2 (.g (matL n n X)) (.c (.int .i64 0)))
  k2 : FnOK Tryz.prog true 9 [.c (ql N q)] (.c (.int .i64 ((T : Nat) - 1)))
  k3 : FnOK Tryz.prog true 8 [.c (ql M g), .g (rmat n n p)] (.t2 (.g (matL n n Y)) (.c (.int .i64 0)))
  k4 : FnOK Tryz.prog true 10 [.c (ql N q), .c (ql M g)] (.c (nql K C))
  k5 : FnOK Tryz.prog true 8 [.c (nql K C), .g (rmat n n p)] (.t2 (.g (matL n n Z)) (.c (.int .i64 0)))
  k6 : FnOK Tryz.prog true 13 [.c (ql N q)] (.c (nql T F))
  k7 : FnOK Tryz.prog true 12 [.c (nql T F), .g (rmat n n p)] (.g (matL n n X))
  k8 : FnOK Tryz.prog true 11 [.g (matL n n X), .g (matL n n X)] (.c (.bool true))
  k9 : FnOK Tryz.prog true 14 [.g (matL n n X), .g (matL n n Y)] (.g (matL n n W))
  k10 : FnOK Tryz.prog true 11 [.g (matL n n Z), .g (matL n n W)] (.c (.bool true))
theorem nql_pol {N : Nat} {q : Nat → RawR} {F : Nat → Rat} {D e : Nat} (h : Pol N q F D e) (hN : N ≤ 1024) (he : e ≤ 10000) : FnOK Tryz.prog false 13 [.c (ql N q)] (.c (nql (Q.tq F N) F)) ∧ FnOK Tryz.prog false 9 [.c (ql N q)] (.c (.int .i64 ((Q.tq F N : Nat) - 1))) := by
  have hv : ∀ i, i < N → (q i).val = F i := fun i hi => by
    rw [← h.val]
    exact (Q.qx_lt (v := fun i => (q i).val) hi).symm
  have hl : ∀ i, i < N → qlen (F i) ≤ 524286 := fun i _ => by have := h.len he i; omega
  exact ⟨normal6_ok (by omega) hv h.wqs hl, degree6_ok (by omega) hv h.wqs hl⟩
/-- A matrix of polynomial values does not ask what lies behind the list's end. -/
theorem both_pol {n N D e : Nat} {q p : Nat → RawR} {F : Nat → Rat} {A : Nat → Nat → Rat} (hA : Sq n p A) (h : Pol N q F D e) (hN : N ≤ 1024) (he : e ≤ 10000) (hT : Q.tq F N ≤ 65) : (∀ i j, i < n → j < n → qlen (hrn n (Q.tq F N) F A (Q.tq F N) i j) ≤ 65535) ∧ FnOK Tryz.prog true 8 [.c (ql N q), .g (rmat n n p)] (.t2 (.g (matL n n (hrn n (Q.tq F N) F A (Q.tq F N)))) (.c (.int .i64 0))) ∧ FnOK Tryz.prog false 12 [.c (nql (Q.tq F N) F), .g (rmat n n p)] (.g (matL n n (hrn n (Q.tq F N) F A (Q.tq F N)))) := by
  have hv : ∀ i, i < N → (q i).val = F i := fun i hi => by
    rw [← h.val]
    exact (Q.qx_lt (v := fun i => (q i).val) hi).symm
  have b := both_at (q := fun i => if i < N then q i else ofR 0) hA hN (F := F) (by
    funext i
    show (if i < N then q i else ofR 0).val = F i
    split
    · rename_i hi
      exact hv i hi
    · rename_i hi
      rw [ofR_val, h.fin i (by omega)]) rfl hT (fun i hi => by rw [if_pos hi]; exact h.fit i hi) (fun i _ => h.fits i) h.pos h.low he
  refine ⟨b.1, arg_ok b.2.1 fun D w vs hh => ?_, b.2.2⟩
  match vs, hh with
  | [a, c], ⟨g1, g2, _⟩ => exact ⟨subRowG rfl (fun i j hi _ => qlF_eq (c := q) (e := fun i => if i < N then q i else ofR 0) (i := i) (k := i) (if_pos hi).symm) D w a g1, g2, trivial⟩
theorem callsCe {n N M D D' : Nat} {q g p : Nat → RawR} {F G : Nat → Rat} {A : Nat → Nat → Rat} (hA : Sq n p A) (hF : Pol N q F D (32 * N)) (hG : Pol M g G D' (32 * M)) (hN : N ≤ 8) (hM : M ≤ 8) : ∃ T K F C X Y Z W, T ≤ 65 ∧ CallsCe n N M T K q g p F C X Y Z W := by
  have tF := Q.tq_le F N
  have tG := Q.tq_le G M
  obtain ⟨lX, a1, a2⟩ := both_pol hA hF (by omega) (by omega) (by omega)
  obtain ⟨lY, b1, _⟩ := both_pol hA hG (by omega) (by omega) (by omega)
  obtain ⟨n1, n2⟩ := nql_pol hF (by omega) (by omega)
  have fF := hF.fin
  have fG := hG.fin
  -- the product of the two polynomials
  have ft : ∀ k a, Fits (D * D') (2 ^ (32 * N + 32 * M)) (F a * G (k - a)) := fun k a => by
    rw [Nat.pow_add]
    exact (hF.fits a).mul (hG.fits (k - a))
  have hcf : ∀ k i, Fits (D * D') (2 ^ (3 + (32 * N + 32 * M))) (cfi F G k i) := fun k i => by
    have key : ∀ i, i ≤ 8 → Fits (D * D') (2 ^ (3 + (32 * N + 32 * M))) (cfi F G k i) := fun i hi => by
      show Fits _ _ (Q.su (fun a => F a * G (k - a)) i)
      rw [su_sm]
      exact (fits_sm i fun a _ => ft k a).mono (mul_le_two (show i ≤ 2 ^ 3 by omega) (Nat.le_refl _))
    rcases Nat.lt_or_ge i 8 with c | c
    · exact key i (by omega)
    · have e : cfi F G k i = cfi F G k 8 := Q.su_more (fun a ha => by rw [fF a (by omega), Rat.zero_mul]) c
      rw [e]
      exact key 8 (Nat.le_refl _)
  have p0 : 0 < D * D' := Nat.mul_pos hF.pos hG.pos
  have p1 : D * D' ≤ 2 ^ (3 + (32 * N + 32 * M)) := Nat.le_trans (mul_le_two hF.low hG.low) (le_two (by omega))
  have m1 := mul6_ok hF.val hG.val (by omega) (by omega) hF.wqs hG.wqs (hF.len (by omega)) (hG.len (by omega)) fun k i => Nat.le_trans (fits_len (hcf k i) p0 p1 (Nat.le_refl _) (by omega)) (by decide)
  have tC := Q.tq_le (Q.cf F G) (N + M)
  have tK : Q.tq (Q.cf F G) (Q.tq (Q.cf F G) (N + M)) = Q.tq (Q.cf F G) (N + M) := Q.tq_eq (Q.tq_fin (fF.cf fG)) (fF.cf fG)
  have pC : Pol (Q.tq (Q.cf F G) (N + M)) (fun i => ofR (Q.cf F G i)) (Q.cf F G) (D * D') (3 + (32 * N + 32 * M)) := by
    have hl : ∀ i, qlen (Q.cf F G i) ≤ 65535 := fun i => fits_len (hcf i (i + 1)) p0 p1 (Nat.le_refl _) (by omega)
    refine ⟨?_, fun i _ => ofR_fit (Nat.le_trans (hl i) (by decide)), fun i _ => wq_n (by have := hl i; omega), p0, p1, fun i => hcf i (i + 1)⟩
    rw [show (fun i => (ofR (Q.cf F G i)).val) = Q.cf F G from funext fun i => ofR_val _]
    exact Q.qx_self (Q.tq_fin (fF.cf fG))
  obtain ⟨lZ, c1, _⟩ := both_pol hA pC (by omega) (by omega) (by omega)
  rw [tK] at lZ c1
  -- the product of the two matrices
  obtain ⟨Da, d0, d1, d2⟩ := hA.fits
  have hX : ∀ i j, i < n → j < n → Fits (D * Da ^ Q.tq F N) (2 ^ (32 * N + (3 + 512) * Q.tq F N)) (hrn n (Q.tq F N) F A (Q.tq F N) i j) := fun i j hi hj => hrn_fits hA.low d2 d0 d1 (fun i _ => hF.fits i) _ (Nat.le_refl _) i j hi hj
  have hY : ∀ i j, i < n → j < n → Fits (D' * Da ^ Q.tq G M) (2 ^ (32 * M + (3 + 512) * Q.tq G M)) (hrn n (Q.tq G M) G A (Q.tq G M) i j) := fun i j hi hj => hrn_fits hA.low d2 d0 d1 (fun i _ => hG.fits i) _ (Nat.le_refl _) i j hi hj
  have hS : ∀ r i j, r < n → i ≤ n → j < n → qlen (sumR (hrn n (Q.tq F N) F A (Q.tq F N) r) (hrn n (Q.tq G M) G A (Q.tq G M)) i j) ≤ 65535 := fun r i j hr hi hj => by
    have hlow := hA.low
    have hs : Fits (D * Da ^ Q.tq F N * (D' * Da ^ Q.tq G M)) (i * (2 ^ (32 * N + (3 + 512) * Q.tq F N) * 2 ^ (32 * M + (3 + 512) * Q.tq G M))) (sumR (hrn n (Q.tq F N) F A (Q.tq F N) r) (hrn n (Q.tq G M) G A (Q.tq G M)) i j) := by
      show Fits _ _ (Q.su (fun k => hrn n (Q.tq F N) F A (Q.tq F N) r k * hrn n (Q.tq G M) G A (Q.tq G M) k j) i)
      rw [su_sm]
      exact fits_sm i fun k hk => (hX r k hr (by omega)).mul (hY k j (by omega) hj)
    refine fits_len (e := 3 + (32 * N + (3 + 512) * Q.tq F N + (32 * M + (3 + 512) * Q.tq G M))) hs (Nat.mul_pos (Nat.mul_pos hF.pos (Nat.pow_pos d0)) (Nat.mul_pos hG.pos (Nat.pow_pos d0))) (Nat.le_trans (mul_le_two (mul_le_two hF.low (pow_le_two d1)) (mul_le_two hG.low (pow_le_two d1))) (le_two (by omega))) (mul_le_two (show i ≤ 2 ^ 3 by omega) (mul_le_two (Nat.le_refl _) (Nat.le_refl _))) (by omega)
  have hlow := hA.low
  have w1 := rmatmul_ok (n := n) (k := n) (m := n) (by omega) (by omega) (by omega) lX lY hS
  have sX := sameMat_n (n := n) (m := n) (by omega) (by omega) fun i j hi hj => Nat.le_trans (lX i j hi hj) (by decide)
  have sW := sameMat_n (n := n) (m := n) (G := fun r => sumR (hrn n (Q.tq F N) F A (Q.tq F N) r) (hrn n (Q.tq G M) G A (Q.tq G M)) n) (by omega) (by omega) fun i j hi hj => Nat.le_trans (hS i n j hi (Nat.le_refl _) hj) (by decide)
  refine ⟨_, _, F, _, _, _, _, _, by omega, ⟨a1, n2.weak, b1, m1.weak, c1, n1.weak, a2.weak, sX.weak, w1.weak, (arg_ok sW fun D w vs hh => ?_).weak⟩⟩
  match vs, hh with
  | [a, c], ⟨g1, g2, _⟩ => exact ⟨matL_eq (fun i j hi hj => hom fF fG rfl rfl rfl i j hi hj) D w a g1, g2, trivial⟩
end Rf
end Go.Proofs.YtigciplaoikcfaaGreat
