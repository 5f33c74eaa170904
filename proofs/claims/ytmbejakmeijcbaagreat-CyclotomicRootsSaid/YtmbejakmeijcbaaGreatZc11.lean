/- The document's polynomials over the rational numbers: normal form, degree, product. -/
import Derived.Test.YtmbejakmeijcbaaGreatZc10
import Derived.Test.YtmbejakmeijcbaaGreatZc9
namespace Go.Proofs.YtmbejakmeijcbaaGreat
open Go.RowKit
namespace Rf
set_option maxHeartbeats 4000000 in
theorem normal6_ok {n : Nat} {q : Nat → RawR} {v : Nat → Rat} (hn : n ≤ 4096) (hv : ∀ i, i < n → (q i).val = v i) (hq : ∀ i, i < n → wq (q i)) (hl : ∀ i, i < n → qlen (v i) ≤ 524286) : FnOK Tryz.prog false 82 [.c (ql n q)] (.c (nql (Q.tq v n) v)) := by
  have h1 : ∀ i, i < n → FnOK Tryz.prog false 120 [.g (rr (q i))] (.g (nq (v i))) := fun i hi => by
    rw [← hv i hi]
    exact rqnormal_ok (hq i hi)
  have h2 : ∀ i, i < n → FnOK Tryz.prog false 52 [.g (nq (v i))] (.c (.int .i64 (v i).num.sign)) := fun i hi => rqsign_n (hl i hi)
  clear hv hq hl
  refine fn_ok (E := E0) E0_ok Tryz.func82 rfl mixed (by kernel_rfl) (by kernel_rfl) ?_
  conv => whnf
  refine loop_ints (fun i : Nat => gst [(0, .c (ql n q)), (3, .c (.gs 0 0)), (4, .c (.int .i64 i))] [gqr i fun k => ofR (v k)]) (fun i => n - i) (fun i => i ≤ n) 0 rfl (Weak.gen [none] rfl ⟨rfl, trivial⟩ ⟨.inl ⟨_, _, rfl, rfl, fun _ _ _ _ => rfl⟩, rfl, ⟨_, rfl, rfl⟩, trivial⟩) (Nat.zero_le _) fun i hi => ?_
  conv => whnf
  refine bcase (fun (h : decide ((i : Int) < n) = true) => ?_) fun (h : decide ((i : Int) < n) = false) => ?_
  · have h := of_decide_eq_true h
    have g1 := h1 i (by omega)
    conv => whnf
    refine ⟨by omega, ?_⟩
    conv => whnf
    refine ⟨by omega, ?_⟩
    conv => whnf
    refine ⟨_, g1, ?_⟩
    conv => whnf
    refine ⟨by show i + 1 ≤ 16777216; omega, fun x y hx hy => one_nq (v i) _ x y hx hy, ?_⟩
    conv => whnf
    refine ⟨i64 (by omega) (by omega), ?_⟩
    conv => whnf
    refine ⟨i + 1, by omega, Weak.gen [some 0] rfl ⟨⟨_, rfl, rfl, rfl, rfl, rfl, fun j k hj hk => ?_⟩, trivial⟩ ⟨.inl ⟨_, _, rfl, rfl, fun _ _ _ _ => rfl⟩, ⟨_, rfl, rfl, rfl⟩, ⟨_, rfl, rfl⟩, trivial⟩, by omega⟩
    exact regE (appG (sz := 4) (g := fun i => nq (v i)) (g' := fun i => nq (v i)) (l := nq (v i)) (app_sameq v i j) (Nat.le_refl (i + 1)) hj) (ql_clos (c := fun i => ofR (v i)) j k)
  · have h := of_decide_eq_false h
    have e : i = n := by omega
    conv => whnf
    refine loop_ints (fun m : Nat => gst [(3, .c (.gs 0 0)), (5, .c (.int .i64 m))] [gqr i fun k => ofR (v k)]) (fun m => m) (fun m => m ≤ i ∧ Q.tq v m = Q.tq v i) i rfl (Weak.gen [some 0] rfl ⟨⟨_, rfl, rfl, rfl, rfl, rfl, fun j k hj hk => regE rfl (ql_clos (c := fun i => ofR (v i)) j k)⟩, trivial⟩ ⟨⟨_, rfl, rfl, rfl⟩, ⟨_, rfl, rfl⟩, trivial⟩) ⟨Nat.le_refl _, rfl⟩ fun m ⟨hm, ht⟩ => ?_
    conv => whnf
    refine bcase (fun (h : gw true (decide ((0 : Int) < m)) = true) => ?_) fun (h : gw true (decide ((0 : Int) < m)) = false) => ?_
    · have h := of_decide_eq_true (gw_true.1 h)
      have ek : ((m : Int) - 1).toNat = m - 1 := by omega
      have hs := h2 ((m : Int) - 1).toNat (by omega)
      have hz : v ((m : Int) - 1).toNat = 0 → Q.tq v (m - 1) = Q.tq v i := fun h => by
        rw [← ht]
        obtain ⟨k, rfl⟩ : ∃ k, m = k + 1 := ⟨m - 1, by omega⟩
        rw [ek] at h
        show Q.tq v k = _
        simp only [Q.tq, Nat.add_sub_cancel] at h ⊢
        rw [if_pos h]
      have hz' : v ((m : Int) - 1).toNat ≠ 0 → m = Q.tq v n := fun h => by
        rw [← e, ← ht]
        obtain ⟨k, rfl⟩ : ∃ k, m = k + 1 := ⟨m - 1, by omega⟩
        rw [ek] at h
        simp only [Q.tq, Nat.add_sub_cancel] at h ⊢
        rw [if_neg h]
      conv => whnf
      refine ⟨i64 (by omega) (by omega), ?_⟩
      conv => whnf
      refine ⟨by omega, ?_⟩
      conv => whnf
      refine ⟨by show ((m : Int) - 1) < (i : Int); omega, ?_⟩
      conv => whnf
      refine ⟨_, hs, ?_⟩
      conv => whnf
      refine bcase (fun (h3 : decide ((v ((m : Int) - 1).toNat).num.sign = 0) = true) => ?_) fun (h3 : decide ((v ((m : Int) - 1).toNat).num.sign = 0) = false) => ?_
      · have h3 := Rat.num_eq_zero.1 (Int.sign_eq_zero_iff_zero.1 (of_decide_eq_true h3))
        have g3 := hz h3
        conv => whnf
        refine ⟨i64 (by omega) (by omega), ?_⟩
        conv => whnf
        exact ⟨m - 1, by omega, Weak.gen [some 0] rfl ⟨⟨_, rfl, rfl, rfl, rfl, rfl, fun j k hj hk => regE rfl (ql_clos (c := fun i => ofR (v i)) j k)⟩, trivial⟩ ⟨⟨_, rfl, rfl, rfl⟩, ⟨_, rfl, by omega⟩, trivial⟩, by omega, g3⟩
      · have h3 := hz' fun e => of_decide_eq_false h3 (by rw [e]; rfl)
        conv => whnf
        refine ⟨by omega, by omega, ?_⟩
        conv => whnf
        refine ⟨by show (m : Int) ≤ (i : Int); omega, ?_⟩
        conv => whnf
        refine ⟨fun j k _ _ => ql_clos (c := fun i => ofR (v i)) j k, ?_⟩
        conv => whnf
        exact ⟨rfl, subRowG (by show ((m : Int) - 0).toNat = _; omega) fun j k _ _ => qlF_eq (c := fun i => ofR (v i)) (e := fun i => ofR (v i)) (i := Int.toNat 0 + j) (k := j) (congrArg (fun t => ofR (v t)) (by omega))⟩
    · have h : ¬ (0 : Int) < m := of_decide_eq_false (gw_false.1 h)
      have h3 : Q.tq v n = 0 := by rw [← e, ← ht]; rw [show m = 0 by omega]; rfl
      conv => whnf
      refine ⟨by omega, by omega, ?_⟩
      conv => whnf
      refine ⟨by show (m : Int) ≤ (i : Int); omega, ?_⟩
      conv => whnf
      refine ⟨fun j k _ _ => ql_clos (c := fun i => ofR (v i)) j k, ?_⟩
      conv => whnf
      exact ⟨rfl, subRowG (by show ((m : Int) - 0).toNat = _; omega) fun j k _ _ => qlF_eq (c := fun i => ofR (v i)) (e := fun i => ofR (v i)) (i := Int.toNat 0 + j) (k := j) (congrArg (fun t => ofR (v t)) (by omega))⟩
/-- The first i terms of a product's coefficient. -/
abbrev cfi (F G : Nat → Rat) (k i : Nat) : Rat := Q.su (fun a => F a * G (k - a)) i
set_option maxHeartbeats 8000000 in
theorem mul6_ok {n m : Nat} {q p : Nat → RawR} {F G : Nat → Rat} (hF : Q.qx n (fun i => (q i).val) = F) (hG : Q.qx m (fun i => (p i).val) = G) (hn : n ≤ 1024) (hm : m ≤ 1024) (hq : ∀ i, i < n → wq (q i)) (hp : ∀ i, i < m → wq (p i)) (lF : ∀ i, qlen (F i) ≤ 65535) (lG : ∀ i, qlen (G i) ≤ 65535) (hs : ∀ k i, qlen (cfi F G k i) ≤ 131070) : FnOK Tryz.prog false 48 [.c (ql n q), .c (ql m p)] (.c (nql (Q.tq (Q.cf F G) (n + m)) (Q.cf F G))) := by
  have s1 := normal6_ok (n := n) (q := q) (v := F) (by omega) (fun i hi => by rw [← hF]; exact (Q.qx_lt (v := fun i => (q i).val) hi).symm) hq fun i _ => by have := lF i; omega
  have s2 := normal6_ok (n := m) (q := p) (v := G) (by omega) (fun i hi => by rw [← hG]; exact (Q.qx_lt (v := fun i => (p i).val) hi).symm) hp fun i _ => by have := lG i; omega
  have f1 : Q.Fin (Q.tq F n) F := Q.tq_fin (by rw [← hF]; exact Q.qx_fin _ _)
  have f2 : Q.Fin (Q.tq G m) G := Q.tq_fin (by rw [← hG]; exact Q.qx_fin _ _)
  have l1 := Q.tq_le F n
  have l2 := Q.tq_le G m
  have fN : Q.Fin (n + m) (Q.cf F G) := (f1.cf f2).mono (by omega)
  generalize Q.tq F n = a at *
  generalize Q.tq G m = b at *
  have z1 : a = 0 → Q.tq (Q.cf F G) (n + m) = 0 := fun e => tq_zero (fun k => Q.su_zero fun i _ => by rw [f1 i (by omega), Rat.zero_mul]) _
  have z2 : b = 0 → Q.tq (Q.cf F G) (n + m) = 0 := fun e => tq_zero (fun k => Q.su_zero fun i _ => by rw [f2 (k - i) (by omega), Rat.mul_zero]) _
  have z3 : a ≠ 0 → b ≠ 0 → ∀ k, k = a + b - 1 → Q.tq (Q.cf F G) k = Q.tq (Q.cf F G) (n + m) := fun e1 e2 k e => Q.tq_eq (fun k hk => Q.su_zero fun i hi => by
    rcases Nat.lt_or_ge i a with c | c
    · rw [f2 (k - i) (by omega), Rat.mul_zero]
    · rw [f1 i c, Rat.zero_mul]) fN
  have s3 : ∀ k, k ≤ a + b → FnOK Tryz.prog false 82 [.c (nql k (Q.cf F G))] (.c (nql (Q.tq (Q.cf F G) k) (Q.cf F G))) := fun k hk => normal6_ok (by omega) (fun i _ => ofR_val _) (fun i _ => wq_n (by have := hs i (i + 1); have : qlen (Q.cf F G i) ≤ 131070 := this; omega)) fun i _ => by have := hs i (i + 1); have : qlen (Q.cf F G i) ≤ 131070 := this; omega
  have m0 : ∀ k i : Nat, FnOK Tryz.prog false 84 [.g (nq (F i)), .g (nq (G ((k : Int) - (i : Int)).toNat))] (.g (nq (F i * G (k - i)))) := fun k i => by
    rw [show ((k : Int) - (i : Int)).toNat = k - i by omega]
    exact rqmul_n (lF i) (lG _)
  have a0 : ∀ k i, FnOK Tryz.prog false 83 [.g (nq (cfi F G k i)), .g (nq (F i * G (k - i)))] (.g (nq (cfi F G k (i + 1)))) := fun k i => rqadd_n (hs k i) (qlen_mul (lF i) (lG _) (by decide))
  have e0 : ∀ k i, i ≤ k → (a ≤ i ∨ b ≤ k - i) → cfi F G k i = cfi F G k (i + 1) := fun k i _ h => by
    show _ = cfi F G k i + F i * G (k - i)
    rcases h with h | h
    · rw [f1 i h, Rat.zero_mul, Rat.add_zero]
    · rw [f2 (k - i) h, Rat.mul_zero, Rat.add_zero]
  have o0 := rqof_zero
  obtain ⟨S, hS⟩ : ∃ S : Nat → Nat → Rat, S = cfi F G := ⟨_, rfl⟩
  have hS1 : ∀ k, S k (k + 1) = Q.cf F G k := fun k => by rw [hS]; rfl
  have hS0 : ∀ k, S k 0 = 0 := fun k => by rw [hS]; rfl
  rw [← hS] at a0 e0
  clear hS hs lF lG hq hp hF hG f1 f2 fN
  generalize Q.cf F G = C at *
  refine fn_ok (E := E0) E0_ok Tryz.func48 rfl mixed (by kernel_rfl) (by kernel_rfl) ?_
  conv => whnf
  refine .inr ?_
  conv => whnf
  refine ⟨_, s1, ?_⟩
  conv => whnf
  refine .inr ?_
  conv => whnf
  refine ⟨_, s2, ?_⟩
  conv => whnf
  refine bcase (fun (h : gw false (decide ((a : Int) = 0)) = true) => ?_) fun (h : gw false (decide ((a : Int) = 0)) = false) => ?_
  · have h : a ≠ 0 := by have := of_decide_eq_false (gwf h); omega
    conv => whnf
    refine bcase (fun (h2 : decide ((b : Int) = 0) = true) => ?_) fun (h2 : decide ((b : Int) = 0) = false) => ?_
    · have h2 : b = 0 := by have := of_decide_eq_true h2; omega
      conv => whnf
      exact ⟨rfl, sub_nil0 (z2 h2)⟩
    have h2 : b ≠ 0 := by have := of_decide_eq_false h2; omega
    have z3 := z3 h h2
    conv => whnf
    refine loop_ints (fun k : Nat => gst [(5, .c (nql a F)), (6, .c (nql b G)), (7, .c (.gs 0 0)), (8, .c (.int .i64 k))] [gqr k fun i => ofR (C i)]) (fun k => a + b - 1 - k) (fun k => k ≤ a + b - 1) 0 rfl (Weak.gen [none] rfl ⟨rfl, trivial⟩ ⟨.inl ⟨_, _, rfl, rfl, fun _ _ _ _ => rfl⟩, .inl ⟨_, _, rfl, rfl, fun _ _ _ _ => rfl⟩, rfl, ⟨_, rfl, rfl⟩, trivial⟩) (Nat.zero_le _) fun k hk => ?_
    have s3 := s3 k
    have z3 := z3 k
    have m0 := m0 k
    have a0 := a0 k
    have e0 := e0 k
    have hS1 := hS1 k
    have hS0 := hS0 k
    conv => whnf
    refine ⟨i64 (by omega) (by omega), ?_⟩
    conv => whnf
    refine ⟨i64 (by omega) (by omega), ?_⟩
    conv => whnf
    refine bcase (fun (h3 : decide ((k : Int) < (a : Int) + (b : Int) - 1) = true) => ?_) fun (h3 : decide ((k : Int) < (a : Int) + (b : Int) - 1) = false) => ?_
    · have h3 := of_decide_eq_true h3
      conv => whnf
      refine ⟨_, o0, ?_⟩
      conv => whnf
      refine loop_ints (fun i : Nat => gst [(5, .c (nql a F)), (6, .c (nql b G)), (7, .c (.gs 0 0)), (8, .c (.int .i64 k)), (9, .c (.p 1 0 4 0 0)), (10, .c (.int .i64 i))] [gqr k fun i => ofR (C i), ⟨46, 4, 1, boxF (nq (S k i))⟩]) (fun i => k + 1 - i) (fun i => i ≤ k + 1) 0 rfl (Weak.gen [some 0, some 1] rfl ⟨⟨_, rfl, rfl, rfl, rfl, rfl, fun x y hx hy => regE rfl (ql_clos (c := fun i => ofR (C i)) x y)⟩, (by rw [hS0]; exact boxU rfl rfl rfl), trivial⟩ ⟨.inl ⟨_, _, rfl, rfl, fun _ _ _ _ => rfl⟩, .inl ⟨_, _, rfl, rfl, fun _ _ _ _ => rfl⟩, ⟨_, rfl, rfl, rfl⟩, ⟨_, rfl, rfl⟩, ⟨_, rfl, rfl, rfl⟩, ⟨_, rfl, rfl⟩, trivial⟩) (Nat.zero_le _) fun i hi => ?_
      have m0 := m0 i
      have a0 := a0 i
      have e0 := e0 i
      conv => whnf
      refine bcase (fun (h4 : decide ((i : Int) ≤ k) = true) => ?_) fun (h4 : decide ((i : Int) ≤ k) = false) => ?_
      · have h4 := of_decide_eq_true h4
        conv => whnf
        refine bcase (fun (h5 : gw true (decide ((i : Int) < a)) = true) => ?_) fun (h5 : gw true (decide ((i : Int) < a)) = false) => ?_
        · have h5 := of_decide_eq_true (gw_true.1 h5)
          conv => whnf
          refine ⟨i64 (by omega) (by omega), ?_⟩
          conv => whnf
          refine bcase (fun (h6 : decide ((k : Int) - (i : Int) < b) = true) => ?_) fun (h6 : decide ((k : Int) - (i : Int) < b) = false) => ?_
          · have h6 := of_decide_eq_true h6
            conv => whnf
            refine ⟨by omega, by omega, ?_⟩
            conv => whnf
            refine ⟨i64 (by omega) (by omega), ?_⟩
            conv => whnf
            refine ⟨by omega, by omega, ?_⟩
            conv => whnf
            refine ⟨_, m0, ?_⟩
            conv => whnf
            refine ⟨_, a0, ?_⟩
            conv => whnf
            refine ⟨i64 (by omega) (by omega), ?_⟩
            conv => whnf
            exact ⟨i + 1, by omega, Weak.gen [some 0, some 1] rfl ⟨⟨_, rfl, rfl, rfl, rfl, rfl, fun x y hx hy => regE rfl (ql_clos (c := fun i => ofR (C i)) x y)⟩, boxU rfl rfl rfl, trivial⟩ ⟨.inl ⟨_, _, rfl, rfl, fun _ _ _ _ => rfl⟩, .inl ⟨_, _, rfl, rfl, fun _ _ _ _ => rfl⟩, ⟨_, rfl, rfl, rfl⟩, ⟨_, rfl, rfl⟩, ⟨_, rfl, rfl, rfl⟩, ⟨_, rfl, rfl⟩, trivial⟩, by omega⟩
          · have h6 := of_decide_eq_false h6
            have e0 := e0 (by omega) (.inr (by omega))
            conv => whnf
            refine ⟨i64 (by omega) (by omega), ?_⟩
            conv => whnf
            exact ⟨i + 1, by omega, Weak.gen [some 0, some 1] rfl ⟨⟨_, rfl, rfl, rfl, rfl, rfl, fun x y hx hy => regE rfl (ql_clos (c := fun i => ofR (C i)) x y)⟩, (by rw [← e0]; exact boxK rfl rfl), trivial⟩ ⟨.inl ⟨_, _, rfl, rfl, fun _ _ _ _ => rfl⟩, .inl ⟨_, _, rfl, rfl, fun _ _ _ _ => rfl⟩, ⟨_, rfl, rfl, rfl⟩, ⟨_, rfl, rfl⟩, ⟨_, rfl, rfl, rfl⟩, ⟨_, rfl, rfl⟩, trivial⟩, by omega⟩
        · have h5 := of_decide_eq_false (gw_false.1 h5)
          have e0 := e0 (by omega) (.inl (by omega))
          conv => whnf
          refine ⟨i64 (by omega) (by omega), ?_⟩
          conv => whnf
          exact ⟨i + 1, by omega, Weak.gen [some 0, some 1] rfl ⟨⟨_, rfl, rfl, rfl, rfl, rfl, fun x y hx hy => regE rfl (ql_clos (c := fun i => ofR (C i)) x y)⟩, (by rw [← e0]; exact boxK rfl rfl), trivial⟩ ⟨.inl ⟨_, _, rfl, rfl, fun _ _ _ _ => rfl⟩, .inl ⟨_, _, rfl, rfl, fun _ _ _ _ => rfl⟩, ⟨_, rfl, rfl, rfl⟩, ⟨_, rfl, rfl⟩, ⟨_, rfl, rfl, rfl⟩, ⟨_, rfl, rfl⟩, trivial⟩, by omega⟩
      · have h4 := of_decide_eq_false h4
        have ei : S k i = C k := by rw [show i = k + 1 by omega]; exact hS1
        conv => whnf
        refine ⟨by show k + 1 ≤ 16777216; omega, fun x y hx hy => one_nq (S k i) _ x y hx hy, ?_⟩
        conv => whnf
        refine ⟨i64 (by omega) (by omega), ?_⟩
        conv => whnf
        refine ⟨k + 1, by omega, Weak.gen [some 0] rfl ⟨⟨_, rfl, rfl, rfl, rfl, rfl, fun x y hx hy => regE ?_ (ql_clos (c := fun i => ofR (C i)) x y)⟩, trivial⟩ ⟨.inl ⟨_, _, rfl, rfl, fun _ _ _ _ => rfl⟩, .inl ⟨_, _, rfl, rfl, fun _ _ _ _ => rfl⟩, ⟨_, rfl, rfl, rfl⟩, ⟨_, rfl, rfl⟩, trivial⟩, by omega⟩
        exact appG (sz := 4) (g := fun k => nq (C k)) (g' := fun k => nq (C k)) (l := nq (S k i)) (by rw [ei]; exact app_sameq C k x) (Nat.le_refl (k + 1)) hx
    · have h3 := of_decide_eq_false h3
      have s3 := s3 (by omega)
      rw [z3 (by omega)] at s3
      conv => whnf
      refine .inr ⟨fun x y _ _ => ql_clos (c := fun i => ofR (C i)) x y, ?_⟩
      conv => whnf
      refine ⟨_, s3, ?_⟩
      conv => whnf
      exact ⟨rfl, Sub.refl _⟩
  · have h : a = 0 := by have := of_decide_eq_true (gwf' h); omega
    conv => whnf
    exact ⟨rfl, sub_nil0 (z1 h)⟩
end Rf
end Go.Proofs.YtmbejakmeijcbaaGreat
/- The document's fractions and polynomials over the rational numbers: whole numbers, negatives, differences, ratios; lists of whole numbers, places, sums. -/
namespace Go.Proofs.YtmbejakmeijcbaaGreat
open Go.RowKit
namespace Rf
set_option maxHeartbeats 4000000 in
theorem rqwhole_ok {a : RawZ} (h : wr a) : FnOK Tryz.prog false 105 [.g (zr a)] (.g (nq (a.val : Rat))) := by
  have o1 := znorm_ok h
  have o2 := rof_ok (x := 1) (by decide) (by decide)
  refine fn_ok (E := E0) E0_ok Tryz.func105 rfl mixed (by kernel_rfl) (by kernel_rfl) ?_
  conv => whnf
  refine ⟨_, o1, ?_⟩
  conv => whnf
  refine ⟨_, o2, ?_⟩
  conv => whnf
  refine ⟨rfl, leaf (x := ((a.val : Int) : Rat)) (n := a.val) (d := 1) ?_⟩
  unfold ofR; simp
theorem zneg_n {x : Int} (h : zlen x ≤ 1048576) : FnOK Tryz.prog false 153 [.g (nz x)] (.g (nz (-x))) := by
  have := zneg_ok (a := ofZ x) (wr_nz h)
  rwa [ofZ_val] at this
set_option maxHeartbeats 4000000 in
theorem rqneg_n {x : Rat} (hx : qlen x ≤ 131070) : FnOK Tryz.prog false 143 [.g (nq x)] (.g (nq (-x))) := by
  have h1 := lenZ hx
  have m1 := zneg_n (x := x.num) (by omega)
  have e := zlen_neg x.num
  have o := over_n (x := -x) (a := -x.num) (b := (x.den : Int)) (by rw [ratio_neg_left, ratio_num_den]) (by omega) (by omega)
  refine fn_ok (E := E0) E0_ok Tryz.func143 rfl mixed (by kernel_rfl) (by kernel_rfl) ?_
  conv => whnf
  refine ⟨_, m1, ?_⟩
  conv => whnf
  refine ⟨_, o, ?_⟩
  conv => whnf
  exact ⟨rfl, Sub.refl _⟩
theorem qlen_neg (x : Rat) : qlen (-x) = qlen x := by
  show max (zlen (-x).num) (zlen ((-x).den : Int)) = max (zlen x.num) (zlen (x.den : Int))
  rw [Rat.neg_num, Rat.neg_den, zlen_neg]
set_option maxHeartbeats 4000000 in
theorem rqsub_n {x y : Rat} (hx : qlen x ≤ 131070) (hy : qlen y ≤ 131070) : FnOK Tryz.prog false 104 [.g (nq x), .g (nq y)] (.g (nq (x - y))) := by
  have m1 := rqneg_n hy
  have o := rqadd_n hx (y := -y) (by rw [qlen_neg]; exact hy)
  rw [← Rat.sub_eq_add_neg] at o
  refine fn_ok (E := E0) E0_ok Tryz.func104 rfl mixed (by kernel_rfl) (by kernel_rfl) ?_
  conv => whnf
  refine ⟨_, m1, ?_⟩
  conv => whnf
  refine ⟨_, o, ?_⟩
  conv => whnf
  exact ⟨rfl, Sub.refl _⟩
set_option maxHeartbeats 4000000 in
theorem rqratio_n {x y : Rat} (hx : qlen x ≤ 131070) (hy : qlen y ≤ 131070) : FnOK Tryz.prog false 103 [.g (nq x), .g (nq y)] (.g (nq (x / y))) := by
  have h1 := lenZ hx
  have h2 := lenZ hy
  have n1 := rqnorm_n (x := x) (by omega)
  have n2 := rqnorm_n (x := y) (by omega)
  have m1 := zmul_n (a := x.num) (b := (y.den : Int)) (by omega)
  have m2 := zmul_n (a := (x.den : Int)) (b := y.num) (by omega)
  have l1 := zlen_mul x.num (y.den : Int)
  have l2 := zlen_mul (x.den : Int) y.num
  have o := over_n (x := x / y) (a := x.num * (y.den : Int)) (b := (x.den : Int) * y.num) (by rw [← ratio_div, ratio_num_den, ratio_num_den]) (by omega) (by omega)
  refine fn_ok (E := E0) E0_ok Tryz.func103 rfl mixed (by kernel_rfl) (by kernel_rfl) ?_
  conv => whnf
  refine ⟨_, n1, ?_⟩
  conv => whnf
  refine ⟨_, n2, ?_⟩
  conv => whnf
  refine ⟨_, m1, ?_⟩
  conv => whnf
  refine ⟨_, m2, ?_⟩
  conv => whnf
  refine ⟨_, o, ?_⟩
  conv => whnf
  exact ⟨rfl, Sub.refl _⟩
set_option maxHeartbeats 4000000 in
theorem of6_ok {n : Nat} {c : Nat → RawZ} {v : Nat → Rat} (hn : n ≤ 4096) (hc : ∀ i, i < n → wr (c i)) (hv : (fun i => ((c i).val : Rat)) = v) (hl : ∀ i, i < n → qlen (v i) ≤ 524286) : FnOK Tryz.prog false 70 [.c (zl n c)] (.c (nql (Q.tq v n) v)) := by
  have h1 : ∀ i, i < n → FnOK Tryz.prog false 105 [.g (zr (c i))] (.g (nq (v i))) := fun i hi => by
    rw [← hv]
    exact rqwhole_ok (hc i hi)
  have n1 : ∀ i, i = n → FnOK Tryz.prog false 82 [.c (nql i v)] (.c (nql (Q.tq v n) v)) := fun i e => by
    rw [e]
    exact normal6_ok hn (fun i _ => ofR_val _) (fun i hi => wq_n (hl i hi)) hl
  clear hc hv hl
  refine fn_ok (E := E0) E0_ok Tryz.func70 rfl mixed (by kernel_rfl) (by kernel_rfl) ?_
  conv => whnf
  refine loop_ints (fun i : Nat => gst [(0, .c (zl n c)), (3, .c (.gs 0 0)), (4, .c (.int .i64 i))] [gqr i fun k => ofR (v k)]) (fun i => n - i) (fun i => i ≤ n) 0 rfl (Weak.gen [none] rfl ⟨rfl, trivial⟩ ⟨.inl ⟨_, _, rfl, rfl, fun _ _ _ _ => rfl⟩, rfl, ⟨_, rfl, rfl⟩, trivial⟩) (Nat.zero_le _) fun i hi => ?_
  have n1 := n1 i
  conv => whnf
  refine bcase (fun (h : decide ((i : Int) < n) = true) => ?_) fun (h : decide ((i : Int) < n) = false) => ?_
  · have h := of_decide_eq_true h
    have g1 := h1 i (by omega)
    conv => whnf
    refine ⟨by omega, ?_⟩
    conv => whnf
    refine ⟨by omega, ?_⟩
    conv => whnf
    refine ⟨_, g1, ?_⟩
    conv => whnf
    refine ⟨by show i + 1 ≤ 16777216; omega, fun x y hx hy => one_nq (v i) _ x y hx hy, ?_⟩
    conv => whnf
    refine ⟨i64 (by omega) (by omega), ?_⟩
    conv => whnf
    refine ⟨i + 1, by omega, Weak.gen [some 0] rfl ⟨⟨_, rfl, rfl, rfl, rfl, rfl, fun j k hj hk => ?_⟩, trivial⟩ ⟨.inl ⟨_, _, rfl, rfl, fun _ _ _ _ => rfl⟩, ⟨_, rfl, rfl, rfl⟩, ⟨_, rfl, rfl⟩, trivial⟩, by omega⟩
    exact regE (appG (sz := 4) (g := fun i => nq (v i)) (g' := fun i => nq (v i)) (l := nq (v i)) (app_sameq v i j) (Nat.le_refl (i + 1)) hj) (ql_clos (c := fun i => ofR (v i)) j k)
  · have h := of_decide_eq_false h
    have n1 := n1 (by omega)
    conv => whnf
    refine .inr ⟨fun x y _ _ => ql_clos (c := fun i => ofR (v i)) x y, ?_⟩
    conv => whnf
    refine ⟨_, n1, ?_⟩
    conv => whnf
    exact ⟨rfl, Sub.refl _⟩
end Rf
end Go.Proofs.YtmbejakmeijcbaaGreat
/- The document's division of polynomials over the rational numbers by a monic one. -/
namespace Go.Proofs.YtmbejakmeijcbaaGreat
open Go.RowKit
namespace Rf
set_option maxHeartbeats 4000000 in
theorem normal6_m {n : Nat} {q : Nat → RawR} {v : Nat → Rat} (hn : n ≤ 4096) (hv : ∀ i, i < n → (q i).val = v i) (hq : ∀ i, i < n → wq (q i)) (hl : ∀ i, i < n → qlen (v i) ≤ 524286) : FnM Tryz.prog false 82 phB [.c (ql n q)] (.c (.sl 1 0 4 0 (Q.tq v n))) phB [qB n fun i => ofR (v i)] := by
  have h1 : ∀ i, i < n → FnOK Tryz.prog false 120 [.g (rr (q i))] (.g (nq (v i))) := fun i hi => by
    rw [← hv i hi]
    exact rqnormal_ok (hq i hi)
  have h2 : ∀ i, i < n → FnOK Tryz.prog false 52 [.g (nq (v i))] (.c (.int .i64 (v i).num.sign)) := fun i hi => rqsign_n (hl i hi)
  clear hv hq hl
  refine fnm_ok (E := E0m) E0m_ok Tryz.func82 rfl mixed (by kernel_rfl) (by kernel_rfl) rfl ?_
  conv => whnf
  refine loop_ints1 (fun i : Nat => gst1 [(0, .c (ql n q)), (3, .c (.gs 1 0)), (4, .c (.int .i64 i))] [gqr i fun k => ofR (v k)]) (fun i => n - i) (fun i => i ≤ n) 0 rfl (Weak.gen1 [none] rfl rfl ⟨rfl, trivial⟩ ⟨.inl ⟨_, _, rfl, rfl, fun _ _ _ _ => rfl⟩, rfl, ⟨_, rfl, rfl⟩, trivial⟩) (Nat.zero_le _) fun i hi => ?_
  conv => whnf
  refine bcase (fun (h : decide ((i : Int) < n) = true) => ?_) fun (h : decide ((i : Int) < n) = false) => ?_
  · have h := of_decide_eq_true h
    have g1 := h1 i (by omega)
    conv => whnf
    refine ⟨by omega, ?_⟩
    conv => whnf
    refine ⟨by omega, ?_⟩
    conv => whnf
    refine ⟨_, g1, ?_⟩
    conv => whnf
    refine ⟨by show i + 1 ≤ 16777216; omega, fun x y hx hy => one_nq (v i) _ x y hx hy, ?_⟩
    conv => whnf
    refine ⟨i64 (by omega) (by omega), ?_⟩
    conv => whnf
    refine ⟨i + 1, by omega, Weak.gen1 [some 1] rfl rfl ⟨⟨_, rfl, rfl, rfl, rfl, rfl, fun j k hj hk => ?_⟩, trivial⟩ ⟨.inl ⟨_, _, rfl, rfl, fun _ _ _ _ => rfl⟩, ⟨_, rfl, rfl, rfl⟩, ⟨_, rfl, rfl⟩, trivial⟩, by omega⟩
    exact regE (appG (sz := 4) (g := fun i => nq (v i)) (g' := fun i => nq (v i)) (l := nq (v i)) (app_sameq v i j) (Nat.le_refl (i + 1)) hj) (ql_clos (c := fun i => ofR (v i)) j k)
  · have h := of_decide_eq_false h
    have e : i = n := by omega
    conv => whnf
    refine loop_ints1 (fun m : Nat => gst1 [(3, .c (.gs 1 0)), (5, .c (.int .i64 m))] [gqr i fun k => ofR (v k)]) (fun m => m) (fun m => m ≤ i ∧ Q.tq v m = Q.tq v i) i rfl (Weak.gen1 [some 1] rfl rfl ⟨⟨_, rfl, rfl, rfl, rfl, rfl, fun j k hj hk => regE rfl (ql_clos (c := fun i => ofR (v i)) j k)⟩, trivial⟩ ⟨⟨_, rfl, rfl, rfl⟩, ⟨_, rfl, rfl⟩, trivial⟩) ⟨Nat.le_refl _, rfl⟩ fun m ⟨hm, ht⟩ => ?_
    conv => whnf
    refine bcase (fun (h : gw true (decide ((0 : Int) < m)) = true) => ?_) fun (h : gw true (decide ((0 : Int) < m)) = false) => ?_
    · have h := of_decide_eq_true (gw_true.1 h)
      have ek : ((m : Int) - 1).toNat = m - 1 := by omega
      have hs := h2 ((m : Int) - 1).toNat (by omega)
      have hz : v ((m : Int) - 1).toNat = 0 → Q.tq v (m - 1) = Q.tq v i := fun h => by
        rw [← ht]
        obtain ⟨k, rfl⟩ : ∃ k, m = k + 1 := ⟨m - 1, by omega⟩
        rw [ek] at h
        show Q.tq v k = _
        simp only [Q.tq, Nat.add_sub_cancel] at h ⊢
        rw [if_pos h]
      have hz' : v ((m : Int) - 1).toNat ≠ 0 → m = Q.tq v n := fun h => by
        rw [← e, ← ht]
        obtain ⟨k, rfl⟩ : ∃ k, m = k + 1 := ⟨m - 1, by omega⟩
        rw [ek] at h
        simp only [Q.tq, Nat.add_sub_cancel] at h ⊢
        rw [if_neg h]
      conv => whnf
      refine ⟨i64 (by omega) (by omega), ?_⟩
      conv => whnf
      refine ⟨by omega, ?_⟩
      conv => whnf
      refine ⟨by show ((m : Int) - 1) < (i : Int); omega, ?_⟩
      conv => whnf
      refine ⟨_, hs, ?_⟩
      conv => whnf
      refine bcase (fun (h3 : decide ((v ((m : Int) - 1).toNat).num.sign = 0) = true) => ?_) fun (h3 : decide ((v ((m : Int) - 1).toNat).num.sign = 0) = false) => ?_
      · have h3 := Rat.num_eq_zero.1 (Int.sign_eq_zero_iff_zero.1 (of_decide_eq_true h3))
        have g3 := hz h3
        conv => whnf
        refine ⟨i64 (by omega) (by omega), ?_⟩
        conv => whnf
        exact ⟨m - 1, by omega, Weak.gen1 [some 1] rfl rfl ⟨⟨_, rfl, rfl, rfl, rfl, rfl, fun j k hj hk => regE rfl (ql_clos (c := fun i => ofR (v i)) j k)⟩, trivial⟩ ⟨⟨_, rfl, rfl, rfl⟩, ⟨_, rfl, by omega⟩, trivial⟩, by omega, g3⟩
      · have h3 := hz' fun e => of_decide_eq_false h3 (by rw [e]; rfl)
        conv => whnf
        refine ⟨by omega, by omega, ?_⟩
        conv => whnf
        refine ⟨by show (m : Int) ≤ (i : Int); omega, ?_⟩
        conv => whnf
        refine Weak.gen1 (tl := [(0, .c (.sl 1 0 4 0 (Q.tq v n)))]) (xs := [gqr n fun i => ofR (v i)]) [some 1] rfl rfl ?_ ?_
        · exact ⟨⟨_, rfl, rfl, rfl, e, rfl, fun j k hj hk => regE rfl (ql_clos (c := fun i => ofR (v i)) j k)⟩, trivial⟩
        · exact ⟨⟨_, _, rfl, rfl, rfl, by show ((m : Int) - 0).toNat = _; omega⟩, trivial⟩
    · have h : ¬ (0 : Int) < m := of_decide_eq_false (gw_false.1 h)
      have h3 : Q.tq v n = 0 := by rw [← e, ← ht]; rw [show m = 0 by omega]; rfl
      conv => whnf
      refine ⟨by omega, by omega, ?_⟩
      conv => whnf
      refine ⟨by show (m : Int) ≤ (i : Int); omega, ?_⟩
      conv => whnf
      refine Weak.gen1 (tl := [(0, .c (.sl 1 0 4 0 (Q.tq v n)))]) (xs := [gqr n fun i => ofR (v i)]) [some 1] rfl rfl ?_ ?_
      · exact ⟨⟨_, rfl, rfl, rfl, e, rfl, fun j k hj hk => regE rfl (ql_clos (c := fun i => ofR (v i)) j k)⟩, trivial⟩
      · exact ⟨⟨_, _, rfl, rfl, rfl, by show ((m : Int) - 0).toNat = _; omega⟩, trivial⟩
set_option maxHeartbeats 4000000 in
theorem divide6_short {n0 n d : Nat} {q : Nat → RawR} {v f : Nat → Rat} (hv : ∀ i, i < n0 → (q i).val = v i) (hn0 : n0 ≤ 1024) (hq : ∀ i, i < n0 → wq (q i)) (hl : ∀ i, i < n0 → qlen (v i) ≤ 524286) (ht : Q.tq v n0 = n) (hnd : n ≤ d) (hg : ∀ j, qlen (f j) ≤ 65535) (hf : Q.Mon d f) (hd : d ≤ 1024) : FnOK Tryz.prog false 69 [.c (ql n0 q), .c (nql (d + 1) f)] (.t2 (.c .nil) (.c (nql n v))) := by
  have hN0 := normal6_ok (by omega) hv hq hl
  rw [ht] at hN0
  have hB := normal6_ok (n := d + 1) (q := fun i => ofR (f i)) (v := f) (by omega) (fun i _ => ofR_val _) (fun i _ => wq_n (by have := hg i; omega)) fun i _ => by have := hg i; omega
  rw [Q.tq_self (n := d + 1) (v := f) fun k hk => by rw [show k = d by omega, hf.top]; decide] at hB
  clear hv hq hl ht hg hf
  refine fn_ok (E := E0) E0_ok Tryz.func69 rfl mixed (by kernel_rfl) (by kernel_rfl) ?_
  conv => whnf
  refine .inr ?_
  conv => whnf
  refine ⟨_, hN0, ?_⟩
  conv => whnf
  refine .inr ?_
  conv => whnf
  refine ⟨_, hB, ?_⟩
  conv => whnf
  refine bpos (show decide ((n : Int) < ((d + 1 : Nat) : Int)) = true from decide_eq_true (by omega)) ?_
  conv => whnf
  exact ⟨rfl, Sub.refl _⟩
set_option maxHeartbeats 16000000 in
theorem divide6_long {n0 n d : Nat} {q : Nat → RawR} {v f : Nat → Rat} (hf : Q.Mon d f) (hn0 : n0 ≤ 1024) (hv : ∀ i, i < n0 → (q i).val = v i) (hq : ∀ i, i < n0 → wq (q i)) (hl : ∀ i, i < n0 → qlen (v i) ≤ 524286) (ht : Q.tq v n0 = n) (hnd : d < n) (hs : ∀ t k, t ≤ n - d → qlen (Q.dvs d f (n - d) v t k) ≤ 65535) (hg : ∀ j, qlen (f j) ≤ 65535) : FnOK Tryz.prog false 69 [.c (ql n0 q), .c (nql (d + 1) f)] (.t2 (.c (nql (Q.tq (Q.dvq d f (n - d) v) (n - d)) (Q.dvq d f (n - d) v))) (.c (nql (Q.tq (Q.dvs d f (n - d) v (n - d)) n) (Q.dvs d f (n - d) v (n - d))))) := by
  have hN0 := normal6_m (by omega) hv hq hl
  have hnn := Q.tq_le v n0
  rw [ht] at hN0 hnn
  have hB := normal6_ok (n := d + 1) (q := fun i => ofR (f i)) (v := f) (by omega) (fun i _ => ofR_val _) (fun i _ => wq_n (by have := hg i; omega)) fun i _ => by have := hg i; omega
  rw [Q.tq_self (n := d + 1) (v := f) fun k hk => by rw [show k = d by omega, hf.top]; decide] at hB
  obtain ⟨N, hN⟩ : ∃ N, N = n - d := ⟨_, rfl⟩
  rw [← hN] at hs ⊢
  have ft := hf.top
  have q1 : ∀ t k, t ≤ N → FnOK Tryz.prog false 103 [.g (nq (Q.dvs d f N v t k)), .g (nq (f d))] (.g (nq (Q.dvs d f N v t k))) := fun t k h => by
    rw [ft]
    have := rqratio_n (x := Q.dvs d f N v t k) (y := 1) (by have := hs t k h; omega) (by decide)
    rwa [show Q.dvs d f N v t k / 1 = Q.dvs d f N v t k by grind] at this
  have p1 : ∀ i j, i < N → FnOK Tryz.prog false 84 [.g (nq (Q.dvq d f N v i)), .g (nq (f j))] (.g (nq (Q.dvq d f N v i * f j))) := fun i j hi => rqmul_n (hs (N - 1 - i) (i + d) (by omega)) (hg j)
  have s1 : ∀ i j, i < N → FnOK Tryz.prog false 104 [.g (nq (Q.dpt (Q.dvq d f N v i) f (Q.dvs d f N v (N - (i + 1))) i j (i + j))), .g (nq (Q.dvq d f N v i * f j))] (.g (nq (Q.dvs d f N v (N - (i + 1)) (i + j) - Q.dvq d f N v i * f j))) := fun i j hi => by
    rw [Q.dpt_old]
    have k1 : qlen (Q.dvq d f N v i) ≤ 65535 := hs (N - 1 - i) (i + d) (by omega)
    exact rqsub_n (by have := hs (N - (i + 1)) (i + j) (by omega); omega) (qlen_mul k1 (hg j) (by decide))
  have w1 : ∀ i, i < N → ∀ k, Q.dpt (Q.dvq d f N v i) f (Q.dvs d f N v (N - (i + 1))) i (d + 1) k = Q.dvs d f N v (N - i) k := fun i hi k => by
    have := Q.dpt_all hf.fin (N := N) (p := v) (t := N - (i + 1)) k
    rw [show N - 1 - (N - (i + 1)) = i by omega, show N - (i + 1) + 1 = N - i by omega] at this
    rw [← this]
    unfold Q.dvq
    rw [show N - 1 - i = N - (i + 1) by omega]
  have w3 := fun i j k => Q.dpt_next (Q.dvq d f N v i) f (Q.dvs d f N v (N - (i + 1))) i j k
  have w4 := fun i k => Q.dpt_zero (Q.dvq d f N v i) f (Q.dvs d f N v (N - (i + 1))) i k
  have e1 : ∀ i, i < N → Q.dvs d f N v (N - (i + 1)) (i + d) = Q.dvq d f N v i := fun i hi => by
    unfold Q.dvq
    rw [show N - 1 - i = N - (i + 1) by omega]
  have hT1 := normal6_ok (n := N) (q := qm (Q.dvq d f N v) 0) (v := Q.dvq d f N v) (by omega) (fun i _ => by rw [qm_zero]; exact ofR_val _) (fun i hi => by rw [qm_zero]; exact wq_n (by have := hs (N - 1 - i) (i + d) (by omega); have h2 : qlen (Q.dvq d f N v i) ≤ 65535 := this; omega)) fun i hi => by have := hs (N - 1 - i) (i + d) (by omega); have h2 : qlen (Q.dvq d f N v i) ≤ 65535 := this; omega
  have hT2 := normal6_ok (n := n) (q := fun x => ofR (Q.dvs d f N v N x)) (v := Q.dvs d f N v N) (by omega) (fun i _ => ofR_val _) (fun i _ => wq_n (by have := hs N i (Nat.le_refl _); omega)) fun i _ => by have := hs N i (Nat.le_refl _); omega
  have hT2 : FnOK Tryz.prog false 82 [.c (.row 4 n fun x j => qlF (fun x => ofR (Q.dvs d f N v (N - 0) x)) (0 + x) j)] (.c (nql (Q.tq (Q.dvs d f N v N) n) (Q.dvs d f N v N))) := arg_ok hT2 fun D w vs h => by
    match vs, h with
    | [v1], ⟨h1, _⟩ => exact ⟨subRowG rfl (fun x j hx hj => by rw [Nat.zero_add]; rfl) D w v1 h1, trivial⟩
  clear hs hg ht hv hq hl
  refine fn_okS (E := E0) E0_ok Tryz.func69 rfl (by kernel_rfl) ?_
  refine swp_seq0 E0_ok mixed (by kernel_rfl) ?_
  conv => whnf
  refine swp_seq0 E0_ok mixed (by kernel_rfl) ?_
  conv => whnf
  refine .inl ⟨[], true, ?_⟩
  conv => whnf
  refine ⟨0, phB, [.c (ql n0 q)], _, _, _, hN0, rfl, .inr (Nat.le_refl 2), fun h => absurd h (by decide), fun h => absurd h (by decide), fun F' hF' => ?_, rfl, rfl, ?_⟩
  · simp at hF'; subst hF'; exact qB_plain _ _
  conv => whnf
  refine .inr ?_
  conv => whnf
  refine ⟨_, hB, ?_⟩
  conv => whnf
  refine swp_seq0 E0_ok mixed (by kernel_rfl) ?_
  conv => whnf
  refine bneg (show decide ((n : Int) < ((d + 1 : Nat) : Int)) = false from decide_eq_false (by omega)) ?_
  conv => whnf
  refine swp_seq0 E0_ok mixed (by kernel_rfl) ?_
  conv => whnf
  refine ⟨i64 (by omega) (by omega), ?_⟩
  conv => whnf
  refine ⟨i64 (by omega) (by omega), ?_⟩
  conv => whnf
  refine ⟨by omega, Int.le_refl _, by omega, by show (64 : Int) * ((n : Int) - ((d + 1 : Nat) : Int) + 1) ≤ 281474976710656; omega, ?_⟩
  have eN : ((n : Int) - ((d + 1 : Nat) : Int) + 1).toNat = N := by omega
  conv => whnf
  refine swp_seqS ?_
  refine swp_seq0 E0_ok mixed (by kernel_rfl) ?_
  conv => whnf
  refine ⟨i64 (by omega) (by omega), ?_⟩
  conv => whnf
  refine swp_block ?_
  refine swp_loop (fun k : Nat => gst [(7, .c (nql (d + 1) f)), (8, .c (.gs 1 0)), (6, .c (.sl 0 0 4 0 n)), (9, .c (.int .i64 ((k : Int) - 1)))] [gqr n0 fun x => ofR (Q.dvs d f N v (N - k) x), gqr N (qm (Q.dvq d f N v) k)]) (fun k => k) (fun k => k ≤ N) N ?_ (Nat.le_refl _) fun k hk => ?_
  · refine Weak.gen [some 1, some 2] rfl ⟨⟨_, rfl, rfl, rfl, rfl, rfl, fun x j hx hj => regE (qlF_eq (c := fun x => ofR (v x)) (e := fun x => ofR (Q.dvs d f N v (N - N) x)) (i := x) (k := x) (congrArg ofR (by rw [Nat.sub_self]; rfl))) (ql_clos (c := fun x => ofR (Q.dvs d f N v (N - N) x)) x j)⟩, ⟨_, rfl, rfl, rfl, eN, rfl, fun x j hx hj => ?_⟩, trivial⟩ ⟨.inl ⟨_, _, rfl, rfl, fun _ _ _ _ => rfl⟩, ⟨_, rfl, rfl, rfl⟩, ⟨_, _, rfl, rfl, rfl, rfl⟩, ⟨_, rfl, by show (n : Int) - ((d + 1 : Nat) : Int) = (N : Int) - 1; omega⟩, trivial⟩
    show regC 0 _ _ (qlF (qm (Q.dvq d f N v) N) x j) _
    have hx : x < N := hx
    unfold qlF
    rw [qm_top hx]
    match j, hj with
    | 0, _ => exact ⟨_, rfl, rfl⟩
    | 1, _ => exact .inr (.inl ⟨rfl, rfl⟩)
    | 2, _ => exact ⟨_, rfl, rfl⟩
    | 3, _ => exact .inr (.inl ⟨rfl, rfl⟩)
  refine swp_seq0 E0_ok mixed (by kernel_rfl) ?_
  conv => whnf
  refine bcase (fun (h : decide ((0 : Int) ≤ (k : Int) - 1) = true) => ?_) fun (h : decide ((0 : Int) ≤ (k : Int) - 1) = false) => ?_
  · have h := of_decide_eq_true h
    obtain ⟨i, hi0⟩ : ∃ i, i = ((k : Int) - 1).toNat := ⟨_, rfl⟩
    have hk1 : k = i + 1 := by omega
    subst hk1
    have hiN : i < N := by omega
    have ei : (((i + 1 : Nat) : Int) - 1).toNat = i := by omega
    have g1 : FnOK Tryz.prog false 103 [.g (nq (Q.dvs d f N v (N - (i + 1)) (0 + (((i + 1 : Nat) : Int) - 1 + ((d + 1 : Nat) : Int) - 1).toNat))), .g (nq (f (((d + 1 : Nat) : Int) - 1).toNat))] (.g (nq (Q.dvq d f N v i))) := by
      have := q1 (N - (i + 1)) (i + d) (by omega)
      rw [e1 i hiN] at this
      rw [show 0 + (((i + 1 : Nat) : Int) - 1 + ((d + 1 : Nat) : Int) - 1).toNat = i + d by omega, show (((d + 1 : Nat) : Int) - 1).toNat = d by omega, e1 i hiN]
      exact this
    conv => whnf
    refine swp_seqS (swp_block ?_)
    refine swp_seq E0_ok mixed (by kernel_rfl) ?_
    conv => whnf
    refine ⟨i64 (by omega) (by omega), ?_⟩
    conv => whnf
    refine ⟨i64 (by omega) (by omega), ?_⟩
    conv => whnf
    refine ⟨by omega, ?_⟩
    conv => whnf
    refine ⟨by show ((i + 1 : Nat) : Int) - 1 + ((d + 1 : Nat) : Int) - 1 < (n : Int); omega, ?_⟩
    conv => whnf
    refine ⟨i64 (by omega) (by omega), ?_⟩
    conv => whnf
    refine ⟨by omega, by omega, ?_⟩
    conv => whnf
    refine ⟨_, g1, ?_⟩
    conv => whnf
    refine ⟨gst [(7, .c (nql (d + 1) f)), (8, .c (.gs 1 0)), (6, .c (.sl 0 0 4 0 n)), (9, .c (.int .i64 (((i + 1 : Nat) : Int) - 1))), (10, .c (.p 2 0 4 0 0))] [gqr n0 fun x => ofR (Q.dvs d f N v (N - (i + 1)) x), gqr N (qm (Q.dvq d f N v) (i + 1)), ⟨46, 4, 1, boxF (nq (Q.dvq d f N v i))⟩], Weak.gen [some 0, some 1, some 17] rfl ⟨⟨_, rfl, rfl, rfl, rfl, rfl, fun x j hx hj => regE rfl (ql_clos (c := fun x => ofR (Q.dvs d f N v (N - (i + 1)) x)) x j)⟩, ⟨_, rfl, rfl, rfl, rfl, rfl, fun x j hx hj => regE rfl (ql_clos (c := qm (Q.dvq d f N v) (i + 1)) x j)⟩, boxU rfl rfl rfl, trivial⟩ ⟨.inl ⟨_, _, rfl, rfl, fun _ _ _ _ => rfl⟩, ⟨_, rfl, rfl, rfl⟩, ⟨_, _, rfl, rfl, rfl, rfl⟩, ⟨_, rfl, rfl⟩, ⟨_, rfl, rfl, rfl⟩, trivial⟩, ?_⟩
    refine swp_seq E0_ok mixed (by kernel_rfl) ?_
    conv => whnf
    refine ⟨by omega, by show ((i + 1 : Nat) : Int) - 1 < (N : Int); omega, ?_⟩
    conv => whnf
    refine ⟨gst [(7, .c (nql (d + 1) f)), (8, .c (.gs 1 0)), (6, .c (.sl 0 0 4 0 n)), (9, .c (.int .i64 (((i + 1 : Nat) : Int) - 1))), (10, .c (.p 2 0 4 0 0))] [gqr n0 fun x => ofR (Q.dvs d f N v (N - (i + 1)) x), gqr N (qm (Q.dvq d f N v) i), ⟨46, 4, 1, boxF (nq (Q.dvq d f N v i))⟩], Weak.gen [some 0, some 1, some 2] rfl ⟨⟨_, rfl, rfl, rfl, rfl, rfl, fun x j hx hj => regE rfl (ql_clos (c := fun x => ofR (Q.dvs d f N v (N - (i + 1)) x)) x j)⟩, ⟨_, rfl, rfl, rfl, rfl, rfl, fun x j hx hj => regE ?_ (ql_clos (c := qm (Q.dvq d f N v) i) x j)⟩, boxK rfl rfl, trivial⟩ ⟨.inl ⟨_, _, rfl, rfl, fun _ _ _ _ => rfl⟩, ⟨_, rfl, rfl, rfl⟩, ⟨_, _, rfl, rfl, rfl, rfl⟩, ⟨_, rfl, rfl⟩, ⟨_, rfl, rfl, rfl⟩, trivial⟩, ?_⟩
    · exact updG (sz := 4) (g := fun x => rr (qm (Q.dvq d f N v) (i + 1) x)) (g' := fun x => rr (qm (Q.dvq d f N v) i x)) (l := nq (Q.dvq d f N v i)) rfl hj (by rw [ei]; exact qm_next _ i x)
    refine swp_of E0_ok mixed (by kernel_rfl) ?_
    conv => whnf
    refine loop_ints (fun j : Nat => gst [(7, .c (nql (d + 1) f)), (8, .c (.gs 1 0)), (6, .c (.sl 0 0 4 0 n)), (9, .c (.int .i64 (((i + 1 : Nat) : Int) - 1))), (10, .c (.p 2 0 4 0 0)), (11, .c (.int .i64 j))] [gqr n0 fun x => ofR (Q.dpt (Q.dvq d f N v i) f (Q.dvs d f N v (N - (i + 1))) i j x), gqr N (qm (Q.dvq d f N v) i), ⟨46, 4, 1, boxF (nq (Q.dvq d f N v i))⟩]) (fun j => d + 1 - j) (fun j => j ≤ d + 1) 0 rfl (Weak.gen [some 0, some 1, some 2] rfl ⟨⟨_, rfl, rfl, rfl, rfl, rfl, fun x j hx hj => regE (qlF_eq (c := fun x => ofR (Q.dvs d f N v (N - (i + 1)) x)) (e := fun x => ofR (Q.dpt (Q.dvq d f N v i) f (Q.dvs d f N v (N - (i + 1))) i 0 x)) (i := x) (k := x) (congrArg ofR (w4 i x).symm)) (ql_clos (c := fun x => ofR (Q.dpt (Q.dvq d f N v i) f (Q.dvs d f N v (N - (i + 1))) i 0 x)) x j)⟩, ⟨_, rfl, rfl, rfl, rfl, rfl, fun x j hx hj => regE rfl (ql_clos (c := qm (Q.dvq d f N v) i) x j)⟩, boxK rfl rfl, trivial⟩ ⟨.inl ⟨_, _, rfl, rfl, fun _ _ _ _ => rfl⟩, ⟨_, rfl, rfl, rfl⟩, ⟨_, _, rfl, rfl, rfl, rfl⟩, ⟨_, rfl, rfl⟩, ⟨_, rfl, rfl, rfl⟩, ⟨_, rfl, rfl⟩, trivial⟩) (Nat.zero_le _) fun j hj => ?_
    have u1 := p1 i j hiN
    have ej : 0 + (((i + 1 : Nat) : Int) - 1 + (j : Int)).toNat = i + j := by omega
    have u2 : FnOK Tryz.prog false 104 [.g (nq (Q.dpt (Q.dvq d f N v i) f (Q.dvs d f N v (N - (i + 1))) i j (0 + (((i + 1 : Nat) : Int) - 1 + (j : Int)).toNat))), .g (nq (Q.dvq d f N v i * f j))] (.g (nq (Q.dvs d f N v (N - (i + 1)) (i + j) - Q.dvq d f N v i * f j))) := by
      rw [ej]
      exact s1 i j hiN
    have u3 := w3 i j
    have u4 := w1 i hiN
    conv => whnf
    refine bcase (fun (h4 : decide ((j : Int) < ((d + 1 : Nat) : Int)) = true) => ?_) fun (h4 : decide ((j : Int) < ((d + 1 : Nat) : Int)) = false) => ?_
    · have h4 := of_decide_eq_true h4
      conv => whnf
      refine ⟨i64 (by omega) (by omega), ?_⟩
      conv => whnf
      refine ⟨i64 (by omega) (by omega), ?_⟩
      conv => whnf
      refine ⟨by omega, ?_⟩
      conv => whnf
      refine ⟨by show ((i + 1 : Nat) : Int) - 1 + (j : Int) < (n : Int); omega, ?_⟩
      conv => whnf
      refine ⟨by omega, by omega, ?_⟩
      conv => whnf
      refine ⟨_, u1, ?_⟩
      conv => whnf
      refine ⟨_, u2, ?_⟩
      conv => whnf
      refine ⟨by omega, ?_⟩
      conv => whnf
      refine ⟨by show ((i + 1 : Nat) : Int) - 1 + (j : Int) < (n : Int); omega, ?_⟩
      conv => whnf
      refine ⟨i64 (by omega) (by omega), ?_⟩
      conv => whnf
      refine ⟨j + 1, by omega, Weak.gen [some 0, some 1, some 2] rfl ⟨⟨_, rfl, rfl, rfl, rfl, rfl, fun x y hx hy => regE ?_ (ql_clos (c := fun x => ofR (Q.dpt (Q.dvq d f N v i) f (Q.dvs d f N v (N - (i + 1))) i (j + 1) x)) x y)⟩, ⟨_, rfl, rfl, rfl, rfl, rfl, fun x j hx hj => regE rfl (ql_clos (c := qm (Q.dvq d f N v) i) x j)⟩, boxK rfl rfl, trivial⟩ ⟨.inl ⟨_, _, rfl, rfl, fun _ _ _ _ => rfl⟩, ⟨_, rfl, rfl, rfl⟩, ⟨_, _, rfl, rfl, rfl, rfl⟩, ⟨_, rfl, rfl⟩, ⟨_, rfl, rfl, rfl⟩, ⟨_, rfl, rfl⟩, trivial⟩, by omega⟩
      exact updG (sz := 4) (g := fun x => nq (Q.dpt (Q.dvq d f N v i) f (Q.dvs d f N v (N - (i + 1))) i j x)) (g' := fun x => nq (Q.dpt (Q.dvq d f N v i) f (Q.dvs d f N v (N - (i + 1))) i (j + 1) x)) (l := nq (Q.dvs d f N v (N - (i + 1)) (i + j) - Q.dvq d f N v i * f j)) rfl hy (by
        show (if x = 0 + (((i + 1 : Nat) : Int) - 1 + (j : Int)).toNat then nq (Q.dvs d f N v (N - (i + 1)) (i + j) - Q.dvq d f N v i * f j) else nq (Q.dpt (Q.dvq d f N v i) f (Q.dvs d f N v (N - (i + 1))) i j x)) = nq (Q.dpt (Q.dvq d f N v i) f (Q.dvs d f N v (N - (i + 1))) i (j + 1) x)
        rw [ej, ← u3 x]
        split <;> rfl)
    · have h4 := of_decide_eq_false h4
      have e : j = d + 1 := by omega
      conv => whnf
      refine swp_of E0_ok mixed (by kernel_rfl) ?_
      conv => whnf
      refine ⟨i64 (by omega) (by omega), ?_⟩
      conv => whnf
      exact ⟨i, by omega, Weak.gen [some 0, some 1] rfl ⟨⟨_, rfl, rfl, rfl, rfl, rfl, fun x y hx hy => regE (qlF_eq (c := fun x => ofR (Q.dpt (Q.dvq d f N v i) f (Q.dvs d f N v (N - (i + 1))) i j x)) (e := fun x => ofR (Q.dvs d f N v (N - i) x)) (i := x) (k := x) (congrArg ofR (by rw [e]; exact u4 x))) (ql_clos (c := fun x => ofR (Q.dvs d f N v (N - i) x)) x y)⟩, ⟨_, rfl, rfl, rfl, rfl, rfl, fun x j hx hj => regE rfl (ql_clos (c := qm (Q.dvq d f N v) i) x j)⟩, trivial⟩ ⟨.inl ⟨_, _, rfl, rfl, fun _ _ _ _ => rfl⟩, ⟨_, rfl, rfl, rfl⟩, ⟨_, _, rfl, rfl, rfl, rfl⟩, ⟨_, rfl, by omega⟩, trivial⟩, by omega⟩
  · have h := of_decide_eq_false h
    have hk0 : k = 0 := by omega
    subst hk0
    conv => whnf
    refine swp_of E0_ok mixed (by kernel_rfl) ?_
    conv => whnf
    refine .inr ⟨fun x j _ _ => ql_clos (c := qm (Q.dvq d f N v) 0) x j, ?_⟩
    conv => whnf
    refine ⟨_, hT1, ?_⟩
    conv => whnf
    refine .inr ⟨fun x j _ _ => ql_clos (c := fun x => ofR (Q.dvs d f N v (N - 0) x)) x j, ?_⟩
    conv => whnf
    refine ⟨_, hT2, ?_⟩
    conv => whnf
    exact ⟨rfl, Sub.refl _⟩
end Rf
end Go.Proofs.YtmbejakmeijcbaaGreat
/- Rows of fractions: zeros, normal forms. -/
namespace Go.Proofs.YtmbejakmeijcbaaGreat
open Go.RowKit
/-- A row of structs. -/
def rows (sz n : Nat) (g : Nat → List Cell) : V := .c (.row sz n fun i j => (g i).getD j .any)
/-- A row that is filled from its start. -/
structure Filled (n i : Nat) (g : Nat → List Cell) (f : Nat → Nat → Cell) : Prop where
  done : ∀ i' j, i' < i → j < 4 → f i' j = (g i').getD j .any
  clos : ∀ i' j, i' < n → j < 4 → (f i' j).clos = true
end Go.Proofs.YtmbejakmeijcbaaGreat
/- Rows that are written: combine; vectors times rows. -/
namespace Go.Proofs.YtmbejakmeijcbaaGreat
open Go.RowKit
end Go.Proofs.YtmbejakmeijcbaaGreat
/- Matrices: rows put one behind the other. -/
namespace Go.Proofs.YtmbejakmeijcbaaGreat
open Go.RowKit
end Go.Proofs.YtmbejakmeijcbaaGreat
/- Package charpoly: the first errors. -/
namespace Go.Proofs.YtmbejakmeijcbaaGreat
open Go.RowKit
end Go.Proofs.YtmbejakmeijcbaaGreat
/- Rows of rows: blank. -/
namespace Go.Proofs.YtmbejakmeijcbaaGreat
open Go.RowKit
end Go.Proofs.YtmbejakmeijcbaaGreat
/- Package matrix: New. -/
namespace Go.Proofs.YtmbejakmeijcbaaGreat
open Go.RowKit
end Go.Proofs.YtmbejakmeijcbaaGreat
/- Matrices in the program: rows stored. -/
namespace Go.Proofs.YtmbejakmeijcbaaGreat
open Go.RowKit
namespace Rf
end Rf
end Go.Proofs.YtmbejakmeijcbaaGreat
/- Matrices in the program: rows loaded. -/
namespace Go.Proofs.YtmbejakmeijcbaaGreat
open Go.RowKit
namespace Rf
/-- What is told of the cells of a grid: rows, then nothing. -/
structure Grd (m : Nat) (G : Nat → Nat → Rat) (F C : Nat → Nat → Cell) : Prop where
  old : ∀ i k, k < i → F i k = nql m (G k)
  new : ∀ i k, i ≤ k → F i k = .nil
  old' : ∀ i k, k < i → C i k = nql m (G k)
  at' : ∀ i, C i i = .gs 2 0
  new' : ∀ i k, i < k → C i k = .nil
end Rf
end Go.Proofs.YtmbejakmeijcbaaGreat
/- Matrices in the program: from rows; the matrix of a multiplication. -/
namespace Go.Proofs.YtmbejakmeijcbaaGreat
open Go.RowKit
namespace Rf
end Rf
end Go.Proofs.YtmbejakmeijcbaaGreat
/- Matrices in the program, whatever fractions their elements are: rows loaded. -/
namespace Go.Proofs.YtmbejakmeijcbaaGreat
open Go.RowKit
namespace Rf
end Rf
end Go.Proofs.YtmbejakmeijcbaaGreat
/- Matrices in the program, whatever fractions their elements are: products. -/
namespace Go.Proofs.YtmbejakmeijcbaaGreat
open Go.RowKit
namespace Rf
end Rf
end Go.Proofs.YtmbejakmeijcbaaGreat
/- Matrices in the program, whatever fractions their elements are: sums, multiples. -/
namespace Go.Proofs.YtmbejakmeijcbaaGreat
open Go.RowKit
namespace Rf
end Rf
end Go.Proofs.YtmbejakmeijcbaaGreat
/- Number fields: sums, products and matrices of multiplications of bounded elements. -/
namespace Go.Proofs.YtmbejakmeijcbaaGreat
open Go.RowKit
namespace Rf
/-- A list that reads as the element A: over the denominator D, the numerators at most 2^e. -/
structure Ev (N : Nat) (q : Nat → RawR) (A : Nat → Rat) (D e : Nat) : Prop where
  val : Q.qx N (fun i => (q i).val) = A
  len : N ≤ 32
  fit : ∀ i, i < N → (q i).Fit KD
  bd : ∀ k, Bd D (2 ^ e) (A k)
/-- A field, opened. -/
structure Fk (n : Nat) (c : Nat → RawZ) (d : Nat) (f : Nat → Rat) : Prop where
  opn : FnOK Tryz.prog true 89 [.g [zl n c]] (.t2 (ringP d f) (.c (.int .i64 0)))
  fd : Fd d 255 f
theorem pow_B (L : Nat) : Dg.B ^ L = 2 ^ (32 * L) := (Nat.pow_mul 2 32 L).symm
theorem pow_lt_B {e L : Nat} (h : e < 32 * L) : 2 ^ e < Dg.B ^ L := by
  rw [pow_B]
  exact Nat.pow_lt_pow_right (by decide) h
theorem two_lt {e : Nat} (h : e ≤ 1000000) : 2 ^ e < Dg.B ^ KD := pow_lt_B (L := KD) (by show e < 32 * 1048576; omega)
theorem le_lim {D : Nat} (h : D ≤ 2 ^ 1000000) : D < Dg.B ^ KD := Nat.lt_of_le_of_lt h (two_lt (e := 1000000) (Nat.le_refl _))
theorem one_le_pow2 (e : Nat) : 1 ≤ 2 ^ e := Nat.one_le_two_pow
theorem pow_c (a n : Nat) : 2 ^ a * (1 + 255) ^ n = 2 ^ (a + 8 * n) := by
  rw [show (1 + 255 : Nat) = 2 ^ 8 from rfl, ← Nat.pow_mul, ← Nat.pow_add]
theorem Ev.fin {N : Nat} {q : Nat → RawR} {A : Nat → Rat} {D e : Nat} (h : Ev N q A D e) : Q.Fin N A := by
  rw [← h.val]; exact Q.qx_fin _ _
/-- An element in normal form. -/
theorem ev_n {d D e : Nat} {r : Nat → Rat} (hr : Q.Fin d r) (hd : d ≤ 12) (hb : ∀ k, Bd D (2 ^ e) (r k)) (h0 : 0 < D) (hD : D ≤ 2 ^ 1000000) (he : e ≤ 1000000) : Ev (Q.tq r d) (fun i => ofR (r i)) r D e :=
  ⟨by
    rw [show (fun i => (ofR (r i)).val) = r from funext fun i => ofR_val _]
    exact Q.qx_self (Q.tq_fin hr), by have := Q.tq_le r d; omega, fun i _ => ofR_fit (bd_fit (hb i) h0 (le_lim hD) (two_lt he)), hb⟩
end Rf
end Go.Proofs.YtmbejakmeijcbaaGreat
/- The law's test of a field: its list short, well-formed, of small degree and small coefficients. -/
namespace Go.Proofs.YtmbejakmeijcbaaGreat
open Go.RowKit
namespace Rf
set_option maxHeartbeats 4000000 in
theorem degree14_ok {n : Nat} {c : Nat → RawZ} (h : wl n c) : FnOK Tryz.prog false 85 [.g [zl n c]] (.c (.int .i64 ((tl (vz c) n : Nat) - 1))) := by
  have s := degree5_ok h
  refine fn_ok (E := E0) E0_ok Tryz.func85 rfl mixed (by kernel_rfl) (by kernel_rfl) ?_
  conv => whnf
  refine ⟨_, s, ?_⟩
  conv => whnf
  exact ⟨rfl, Sub.refl _⟩
end Rf
end Go.Proofs.YtmbejakmeijcbaaGreat
/- The law NumfieldField: its calls, one behind the other, and what they hand back. -/
namespace Go.Proofs.YtmbejakmeijcbaaGreat
open Go.RowKit
theorem su_bd {D B : Nat} {f : Nat → Rat} (h : ∀ i, Bd D B (f i)) : ∀ n, Bd D (n * B) (Q.su f n)
  | 0 => Bd.zero _ _
  | n + 1 => by
    rw [Nat.add_mul, Nat.one_mul]
    exact (su_bd h n).add (h n)
namespace Rf
theorem pow_le2 {a b : Nat} (h : a ≤ b) : 2 ^ a ≤ 2 ^ b := Nat.pow_le_pow_right (by decide) h
theorem le_pow {D a b : Nat} (h : D ≤ 2 ^ a) (e : a ≤ b) : D ≤ 2 ^ b := Nat.le_trans h (pow_le2 e)
theorem bd_doc {D e : Nat} {x : Rat} (h : Bd D (2 ^ e) x) (h0 : 0 < D) (hD : D ≤ 2 ^ 100000) (he : e ≤ 1000000) : qlen x ≤ 65535 :=
  h.len h0 (Nat.lt_of_le_of_lt hD (pow_lt_B (e := 100000) (L := 65535) (by decide))) (pow_lt_B (e := e) (L := 65535) (by omega)) (by decide)
end Rf
end Go.Proofs.YtmbejakmeijcbaaGreat
/- Substitutions x -> x^t from one quotient by a monic polynomial into another. No condition. -/
namespace Go.Proofs.YtmbejakmeijcbaaGreat
namespace Q
/-- A(x^t), of the first m places. -/
def sb (t m : Nat) (A : Nat → Rat) (j : Nat) : Rat := su (fun i => A i * xp (i * t) j) m
/-- The substitution takes the one modulus to nothing modulo the other. -/
structure Hom (d : Nat) (f : Nat → Rat) (d' : Nat) (g : Nat → Rat) (t : Nat) : Prop where
  mon : Mon d f
  mon' : Mon d' g
  zero : Rm d' g (sb t (d + 1) f) fun _ => 0
/-- The n-th power of the letter is 1. -/
def Per (n d : Nat) (f : Nat → Rat) : Prop := Mon d f ∧ ∀ r, Rm d f (xp n) r ↔ Rm d f (xp 0) r
theorem Per.step {n d k : Nat} {f r : Nat → Rat} (h : Per n d f) : Rm d f (xp (k + n)) r ↔ Rm d f (xp k) r := by
  have key : ∀ {a b : Nat}, (∀ r, Rm d f (xp a) r → Rm d f (xp b) r) → (∃ r, Rm d f (xp a) r) → ∀ r, Rm d f (xp (k + a)) r → Rm d f (xp (k + b)) r := fun {a b} h1 ⟨u, hu⟩ r hr => by
    have ⟨v, hv⟩ : ∃ v, Rm d f (cf u (xp k)) v := ⟨_, dvs_rm h.1 (N := d + (k + 1)) ((hu.1.cf (xp_fin k)).mono (by omega))⟩
    have e1 := hu.mul (xp_fin k) hv
    have e2 := (h1 u hu).mul (xp_fin k) hv
    have e3 := (hr.eq h.1 (e1.congr fun j => by rw [xp_add, Nat.add_comm]))
    have e4 : r = v := funext e3
    rw [e4]
    exact e2.congr fun j => by rw [xp_add, Nat.add_comm]
  have ex : ∀ a, ∃ r, Rm d f (xp a) r := fun a => ⟨_, dvs_rm h.1 (N := a + 1) ((xp_fin a).mono (by omega))⟩
  exact ⟨fun hr => key (fun r => (h.2 r).1) (ex n) r hr, fun hr => key (fun r => (h.2 r).2) (ex 0) r hr⟩
theorem Per.more {n d : Nat} {f r : Nat → Rat} (h : Per n d f) (k : Nat) : ∀ c, Rm d f (xp (k + n * c)) r ↔ Rm d f (xp k) r
  | 0 => Iff.rfl
  | c + 1 => by
    rw [Nat.mul_succ, ← Nat.add_assoc]
    exact h.step.trans (h.more k c)
/-- Exponents that are the same modulo n. -/
theorem Per.mod {n d k k' : Nat} {f r : Nat → Rat} (h : Per n d f) (e : k % n = k' % n) (hr : Rm d f (xp k) r) : Rm d f (xp k') r := by
  have h1 := Nat.mod_add_div k n
  have h2 := Nat.mod_add_div k' n
  rw [← h1, h.more] at hr
  rw [← h2, h.more, ← e]
  exact hr
end Q
end Go.Proofs.YtmbejakmeijcbaaGreat
/- Quotients by integer polynomials told by tables of the letter's powers: checks of the tables and what they give. No condition. -/
namespace Go.Proofs.YtmbejakmeijcbaaGreat
namespace Q
/-- A list of integers as a function to the rational numbers. -/
def fr (l : List Int) (i : Nat) : Rat := ((l.getD i 0 : Int) : Rat)
theorem fr_fin (l : List Int) : Fin l.length (fr l) := fun i hi => by
  unfold fr
  rw [List.getD_eq_getElem?_getD, List.getElem?_eq_none hi]; rfl
def isu (f : Nat → Int) : Nat → Int
  | 0 => 0
  | n + 1 => isu f n + f n
abbrev row (T : List (List Int)) (k : Nat) : List Int := T.getD k []
/-- The table T tells the powers of the letter modulo φ, which is monic of degree d. -/
def tabB (n d : Nat) (φ : List Int) (T : List (List Int)) : Bool :=
  decide (1 ≤ n) && decide (1 ≤ d) && decide (d ≤ 12) && decide (n ≤ 42) && (φ.length == d + 1) && (φ.getD d 0 == 1) && (T.length == n) && T.all (fun l => decide (l.length ≤ d)) &&
    ((List.range d).all fun j => (row T 0).getD j 0 == if j == 0 then 1 else 0) &&
    (List.range n).all fun k => (List.range d).all fun j => (row T ((k + 1) % n)).getD j 0 == (if j == 0 then 0 else (row T k).getD (j - 1) 0) - (row T k).getD (d - 1) 0 * φ.getD j 0
theorem row_fin {d : Nat} {T : List (List Int)} (h : T.all (fun l => decide (l.length ≤ d)) = true) (k : Nat) : Fin d (fr (row T k)) := by
  refine (fr_fin _).mono ?_
  show (T.getD k []).length ≤ d
  rw [List.getD_eq_getElem?_getD]
  cases hx : T[k]? with
  | none => exact Nat.zero_le _
  | some l => exact of_decide_eq_true (List.all_eq_true.1 h l (List.mem_of_getElem? hx))
structure Tab (n d : Nat) (f : Nat → Rat) (T : List (List Int)) : Prop where
  n1 : 1 ≤ n
  n2 : n ≤ 42
  d1 : 1 ≤ d
  d2 : d ≤ 12
  mon : Mon d f
  fin : ∀ k, Fin d (fr (row T k))
  zero : ∀ k, fr (row T 0) k = xp 0 k
  rm : ∀ k, Rm d f (xp k) (fr (row T (k % n)))
theorem cf_xp1 (r : Nat → Rat) (j : Nat) : cf r (xp 1) j = if 1 ≤ j then r (j - 1) else 0 := by
  rw [cf_comm, cf_xp]
theorem rm_next {d : Nat} {f r r' : Nat → Rat} (hf : Mon d f) (hd : 1 ≤ d) (hr : Fin d r) (hr' : Fin d r') (h : ∀ j, j < d → r' j = (if j = 0 then 0 else r (j - 1)) - r (d - 1) * f j) : Rm d f (cf r (xp 1)) r' := by
  refine ⟨hr', 1, fun i => if i = 0 then r (d - 1) else 0, fun i hi => if_neg (by omega), fun k => ?_⟩
  have e := cf_mono (r (d - 1)) 0 f k
  rw [if_pos (Nat.zero_le k), Nat.sub_zero] at e
  rw [e, cf_xp1]
  rcases Nat.lt_or_ge k d with c | c
  · rw [h k c]
    by_cases c' : k = 0
    · rw [if_neg (by omega), if_pos c']; grind
    · rw [if_pos (by omega), if_neg c']; grind
  · rw [hr' k c, if_pos (by omega)]
    rcases Nat.lt_or_ge d k with c' | c'
    · rw [hr (k - 1) (by omega), hf.fin k (by omega)]; grind
    · rw [show k = d by omega, hf.top]; grind
theorem tab_ok {n d : Nat} {φ : List Int} {T : List (List Int)} (h : tabB n d φ T = true) : Tab n d (fr φ) T := by
  unfold tabB at h
  simp only [Bool.and_eq_true, decide_eq_true_eq, beq_iff_eq] at h
  obtain ⟨⟨⟨⟨⟨⟨⟨⟨⟨h1, h2⟩, h3⟩, h4⟩, h5⟩, h6⟩, _⟩, h8⟩, h9⟩, h10⟩ := h
  have hm : Mon d (fr φ) := ⟨by unfold fr; rw [h6]; rfl, by rw [← h5]; exact fr_fin φ⟩
  have hz : ∀ k, fr (row T 0) k = xp 0 k := fun k => by
    rcases Nat.lt_or_ge k d with c | c
    · have := beq_iff_eq.1 (List.all_eq_true.1 h9 k (List.mem_range.2 c))
      unfold fr xp
      rw [this]
      by_cases e : k = 0
      · subst e; rfl
      · rw [if_neg (by simpa using e), if_neg e]; rfl
    · rw [row_fin h8 0 k c, show xp 0 k = 0 from if_neg (by omega)]
  refine ⟨h1, h4, h2, h3, hm, row_fin h8, hz, fun k => ?_⟩
  induction k with
  | zero =>
    rw [Nat.zero_mod]
    exact (Rm.self (row_fin h8 0)).congr hz
  | succ k ih =>
    have hk : k % n < n := Nat.mod_lt _ h1
    have e : (k % n + 1) % n = (k + 1) % n := by rw [Nat.mod_add_mod]
    have h11 := List.all_eq_true.1 h10 (k % n) (List.mem_range.2 hk)
    rw [e] at h11
    refine (ih.mul (xp_fin 1) (rm_next hm h2 (row_fin h8 _) (row_fin h8 _) fun j hj => ?_)).congr fun j => xp_add k 1 j
    have := beq_iff_eq.1 (List.all_eq_true.1 h11 j (List.mem_range.2 hj))
    unfold fr
    rw [this, Rat.intCast_sub, Rat.intCast_mul]
    by_cases c : j = 0
    · subst c; rfl
    · rw [if_neg (by simpa using c), if_neg c]
theorem Tab.per {n d : Nat} {f : Nat → Rat} {T : List (List Int)} (h : Tab n d f T) : Per n d f := by
  have e1 := h.rm n
  have e2 := h.rm 0
  rw [Nat.mod_self] at e1
  rw [Nat.zero_mod] at e2
  exact ⟨h.mon, fun r => ⟨fun hr => e2.trans_eq (e1.eq h.mon hr), fun hr => e1.trans_eq (e2.eq h.mon hr)⟩⟩
/-- The image of the modulus is nothing. -/
def homB (d n' d' t : Nat) (φ : List Int) (T' : List (List Int)) : Bool := (List.range d').all fun j => isu (fun i => φ.getD i 0 * (row T' (i * t % n')).getD j 0) (d + 1) == 0
/-- All units. -/
def unitB (n d : Nat) (φ : List Int) (T : List (List Int)) : Bool := (List.range n).all fun t => Nat.gcd t n != 1 || homB d n d t φ T
/-- Traces: the sum over the units of the powers of a power of the letter is the trace of its matrix. -/
def trc (n d : Nat) (T : List (List Int)) (k : Nat) : Int := isu (fun i => (row T ((k + i) % n)).getD i 0) d
def sumB (n d : Nat) (T : List (List Int)) : Bool := (List.range n).all fun k => (List.range d).all fun j => isu (fun t => if Nat.gcd (t + 1) n == 1 then (row T (k * (t + 1) % n)).getD j 0 else 0) n == if j == 0 then trc n d T k else 0
/-- The powers below the n-th are different. -/
def distB (n d : Nat) (T : List (List Int)) : Bool := (List.range n).all fun i => (List.range i).all fun j => (List.range d).any fun p => !((row T i).getD p 0 == (row T j).getD p 0)
theorem dist_ok {n d i j : Nat} {T : List (List Int)} (h : distB n d T = true) (hi : i < n) (hj : j < i) : ∃ p, fr (row T i) p ≠ fr (row T j) p := by
  have h1 := List.all_eq_true.1 (List.all_eq_true.1 h i (List.mem_range.2 hi)) j (List.mem_range.2 hj)
  obtain ⟨p, _, hp⟩ := List.any_eq_true.1 h1
  refine ⟨p, fun e => ?_⟩
  have e : (((row T i).getD p 0 : Int) : Rat) = (((row T j).getD p 0 : Int) : Rat) := e
  have e : (row T i).getD p 0 = (row T j).getD p 0 := by exact_mod_cast e
  rw [e] at hp
  simp at hp
end Q
end Go.Proofs.YtmbejakmeijcbaaGreat
/- Traces, sums of conjugates, lifts that can be undone, in a quotient told by a table. No condition. -/
namespace Go.Proofs.YtmbejakmeijcbaaGreat
namespace Q
/-- The sum of the diagonal. -/
def dg (n d m : Nat) (T : List (List Int)) (A : Nat → Rat) : Rat := su (fun l => A l * ((trc n d T l : Int) : Rat)) m
end Q
end Go.Proofs.YtmbejakmeijcbaaGreat
/- Polynomials over the integers, as functions: sums of products. -/
namespace Go.Proofs.YtmbejakmeijcbaaGreat
namespace Z
theorem tl_behind {a : Nat → Int} : ∀ {n k : Nat}, tl a n ≤ k → k < n → a k = 0
  | 0, k, _, h => absurd h (Nat.not_lt_zero k)
  | n + 1, k, h, hk => by
    unfold tl at h
    split at h
    · rename_i h0
      by_cases e : k = n
      · rw [e]; exact h0
      · exact tl_behind h (by omega)
    · omega
/-- The sum of the first n. -/
def su (f : Nat → Int) : Nat → Int
  | 0 => 0
  | n + 1 => su f n + f n
theorem su_congr {f g : Nat → Int} : ∀ {n : Nat}, (∀ i, i < n → f i = g i) → su f n = su g n
  | 0, _ => rfl
  | n + 1, h => by
    unfold su
    rw [su_congr fun i hi => h i (by omega), h n (by omega)]
theorem su_add {f g : Nat → Int} : ∀ {n : Nat}, su (fun i => f i + g i) n = su f n + su g n
  | 0 => (Int.add_zero 0).symm
  | n + 1 => by
    unfold su
    rw [su_add]
    grind
theorem su_zero {f : Nat → Int} : ∀ {n : Nat}, (∀ i, i < n → f i = 0) → su f n = 0
  | 0, _ => rfl
  | n + 1, h => by
    unfold su
    rw [su_zero fun i hi => h i (by omega), h n (by omega), Int.add_zero]
theorem su_head {f : Nat → Int} : ∀ {n : Nat}, su f (n + 1) = f 0 + su (fun i => f (i + 1)) n
  | 0 => by show 0 + f 0 = f 0 + 0; rw [Int.add_comm]
  | n + 1 => by
    show su f (n + 1) + f (n + 1) = f 0 + (su (fun i => f (i + 1)) n + f (n + 1))
    rw [su_head, Int.add_assoc]
theorem su_rev : ∀ {n : Nat} {f : Nat → Int}, su f n = su (fun i => f (n - 1 - i)) n
  | 0, _ => rfl
  | n + 1, f => by
    rw [su_head, su_rev (n := n)]
    show f 0 + su (fun i => f (n - 1 - i + 1)) n = su (fun i => f (n + 1 - 1 - i)) n + f (n + 1 - 1 - n)
    rw [show n + 1 - 1 - n = 0 by omega, su_congr (g := fun i => f (n + 1 - 1 - i)) fun i hi => by
      show f (n - 1 - i + 1) = f (n + 1 - 1 - i)
      rw [show n - 1 - i + 1 = n + 1 - 1 - i by omega]]
    rw [Int.add_comm]
/-- One term alone. -/
theorem su_one {f : Nat → Int} {t : Nat} : ∀ {n : Nat}, t < n → (∀ i, i < n → i ≠ t → f i = 0) → su f n = f t
  | 0, h, _ => absurd h (Nat.not_lt_zero t)
  | n + 1, h, h0 => by
    unfold su
    by_cases e : t = n
    · subst e
      rw [su_zero fun i hi => h0 i (by omega) (by omega), Int.zero_add]
    · rw [su_one (t := t) (by omega) fun i hi he => h0 i (by omega) he, h0 n (by omega) (fun h => e h.symm), Int.add_zero]
/-- The product's coefficient. -/
def cf (F G : Nat → Int) (k : Nat) : Int := su (fun i => F i * G (k - i)) (k + 1)
theorem cf_comm (F G : Nat → Int) (k : Nat) : cf F G k = cf G F k := by
  unfold cf
  rw [su_rev]
  refine su_congr fun i hi => ?_
  rw [show k + 1 - 1 - i = k - i by omega, show k - (k - i) = i by omega, Int.mul_comm]
theorem cf_add (F G H : Nat → Int) (k : Nat) : cf F (fun i => G i + H i) k = cf F G k + cf F H k := by
  unfold cf
  rw [← su_add]
  exact su_congr fun i _ => Int.mul_add _ _ _
theorem cf_add_left (F G H : Nat → Int) (k : Nat) : cf (fun i => F i + G i) H k = cf F H k + cf G H k := by
  rw [cf_comm, cf_add, cf_comm H F, cf_comm H G]
theorem cf_congr {F F' G G' : Nat → Int} (h : ∀ i, F i = F' i) (h' : ∀ i, G i = G' i) (k : Nat) : cf F G k = cf F' G' k :=
  su_congr fun i _ => by rw [h, h']
/-- Nothing from the place n on. -/
def Fin (n : Nat) (F : Nat → Int) : Prop := ∀ k, n ≤ k → F k = 0
theorem Fin.mono {n m : Nat} {F : Nat → Int} (h : Fin n F) (hm : n ≤ m) : Fin m F := fun k hk => h k (by omega)
theorem Fin.cf {n m : Nat} {F G : Nat → Int} (h : Fin n F) (h' : Fin m G) : Fin (n + m) (cf F G) := fun k hk => su_zero fun i hi => by
  rcases Nat.lt_or_ge i n with c | c
  · rw [h' (k - i) (by omega), Int.mul_zero]
  · rw [h i c, Int.zero_mul]
/-- Monic of degree n. -/
structure Mon (n : Nat) (f : Nat → Int) : Prop where
  top : f n = 1
  fin : Fin (n + 1) f
/-- The coefficient at the top of a product with a monic one. -/
theorem cf_top {n t : Nat} {f q : Nat → Int} (hf : Mon n f) (hq : Fin (t + 1) q) : cf q f (t + n) = q t := by
  have h : cf q f (t + n) = q t * f (t + n - t) := su_one (t := t) (by omega) fun i hi he => by
    rcases Nat.lt_or_ge i (t + 1) with c | c
    · rw [hf.fin (t + n - i) (by omega), Int.mul_zero]
    · rw [hq i c, Int.zero_mul]
  rw [h, show t + n - t = n by omega, hf.top, Int.mul_one]
/-- The length does not depend on where one starts. -/
theorem tl_eq {v : Nat → Int} {n m : Nat} (h : Fin n v) (h' : Fin m v) : tl v n = tl v m := by
  have key : ∀ {n m : Nat}, Fin n v → Fin m v → tl v n ≤ tl v m := fun {n m} h h' => by
    rcases Nat.lt_or_ge (tl v m) (tl v n) with c | c
    · obtain ⟨k, hk⟩ : ∃ k, tl v n = k + 1 := ⟨tl v n - 1, by omega⟩
      refine absurd ?_ (tl_top hk)
      rcases Nat.lt_or_ge k m with c' | c'
      · exact tl_behind (by omega) c'
      · exact h' k c'
    · exact c
  exact Nat.le_antisymm (key h h') (key h' h)
theorem tl_fin {v : Nat → Int} {n : Nat} (h : Fin n v) : Fin (tl v n) v := fun k hk => by
  rcases Nat.lt_or_ge k n with c | c
  · exact tl_behind hk c
  · exact h k c
theorem tl_zero {v : Nat → Int} (h : ∀ k, v k = 0) : ∀ n, tl v n = 0
  | 0 => rfl
  | n + 1 => by unfold tl; rw [if_pos (h n), tl_zero h n]
/-- A list whose last place is not nothing. -/
theorem tl_is {v : Nat → Int} {n k : Nat} (h : Fin n v) (hk : Fin k v) (ht : k = 0 ∨ v (k - 1) ≠ 0) : tl v n = k := by
  rw [tl_eq h hk]
  refine tl_self fun j hj => ?_
  rcases ht with ht | ht
  · omega
  · rwa [hj, Nat.add_sub_cancel] at ht
end Z
end Go.Proofs.YtmbejakmeijcbaaGreat
