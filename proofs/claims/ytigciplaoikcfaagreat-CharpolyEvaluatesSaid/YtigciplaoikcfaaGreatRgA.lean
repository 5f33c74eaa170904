/- The document's polynomials over the rational numbers: normal form, degree, product. -/
import Derived.Test.YtigciplaoikcfaaGreatRfN
namespace Go.Proofs.YtigciplaoikcfaaGreat
open Go.RowKit
namespace Rf
set_option maxHeartbeats 4000000 in
theorem normal6_ok {n : Nat} {q : Nat → RawR} {v : Nat → Rat} (hn : n ≤ 4096) (hv : ∀ i, i < n → (q i).val = v i) (hq : ∀ i, i < n → wq (q i)) (hl : ∀ i, i < n → qlen (v i) ≤ 524286) : FnOK Tryz.prog false 13 [.c (ql n q)] (.c (nql (Q.tq v n) v)) := by
  have h1 : ∀ i, i < n → FnOK Tryz.prog false 42 [.g (rr (q i))] (.g (nq (v i))) := fun i hi => by
    rw [← hv i hi]
    exact rqnormal_ok (hq i hi)
  have h2 : ∀ i, i < n → FnOK Tryz.prog false 43 [.g (nq (v i))] (.c (.int .i64 (v i).num.sign)) := fun i hi => rqsign_n (hl i hi)
  clear hv hq hl
  refine fn_ok (E := E0) E0_ok Tryz.func13 rfl mixed (by kernel_rfl) (by kernel_rfl) ?_
  conv => whnf
  refine loop_ints (fun i : Nat => gst [(0, .c (ql n q)), (3, .c (.gs 0 0)), (4, .c (.int .i64 i))] [gqr i fun k => ofR (v k)]) (fun i => n - i) (fun i => i ≤ n) 0 rfl (Weak.gen [none] rfl ⟨rfl, trivial⟩ ⟨.inl ⟨_, _, rfl, rfl, fun _ _ _ _ => rfl⟩, rfl, ⟨_, rfl, rfl⟩, trivial⟩) (Nat.zero_le _) fun i hi => ?_
  conv => whnf
  refine bcase (fun (h : decide ((i : Int) < n) = true) => ?_) fun (h : decide ((i : Int) < n) = false) => ?_
  · have h := of_decide_eq_true h
    have g1 := h1 i (by omega)
    conv => whnf
    refine ⟨by omega, ?_⟩
    conv => whnf
    refine ⟨by omega, ?_⟩
    conv => whnf
    refine ⟨_, g1, ?_⟩
    conv => whnf
    refine ⟨by show i + 1 ≤ 16777216; omega, fun x y hx hy => one_nq (v i) _ x y hx hy, ?_⟩
    conv => whnf
    refine ⟨i64 (by omega) (by omega), ?_⟩
    conv => whnf
    refine ⟨i + 1, by omega, Weak.gen [some 0] rfl ⟨⟨_, rfl, rfl, rfl, rfl, rfl, fun j k hj hk => ?_⟩, trivial⟩ ⟨.inl ⟨_, _, rfl, rfl, fun _ _ _ _ => rfl⟩, ⟨_, rfl, rfl, rfl⟩, ⟨_, rfl, rfl⟩, trivial⟩, by omega⟩
    exact regE (appG (sz := 4) (g := fun i => nq (v i)) (g' := fun i => nq (v i)) (l := nq (v i)) (app_sameq v i j) (Nat.le_refl (i + 1)) hj) (ql_clos (c := fun i => ofR (v i)) j k)
  · have h := of_decide_eq_false h
    have e : i = n := by omega
    conv => whnf
    refine loop_ints (fun m : Nat => gst [(3, .c (.gs 0 0)), (5, .c (.int .i64 m))] [gqr i fun k => ofR (v k)]) (fun m => m) (fun m => m ≤ i ∧ Q.tq v m = Q.tq v i) i rfl (Weak.gen [some 0] rfl ⟨⟨_, rfl, rfl, rfl, rfl, rfl, fun j k hj hk => regE rfl (ql_clos (c := fun i => ofR (v i)) j k)⟩, trivial⟩ ⟨⟨_, rfl, rfl, rfl⟩, ⟨_, rfl, rfl⟩, trivial⟩) ⟨Nat.le_refl _, rfl⟩ fun m ⟨hm, ht⟩ => ?_
    conv => whnf
    refine bcase (fun (h : gw true (decide ((0 : Int) < m)) = true) => ?_) fun (h : gw true (decide ((0 : Int) < m)) = false) => ?_
    · have h := of_decide_eq_true (gw_true.1 h)
      have ek : ((m : Int) - 1).toNat = m - 1 := by omega
      have hs := h2 ((m : Int) - 1).toNat (by omega)
      have hz : v ((m : Int) - 1).toNat = 0 → Q.tq v (m - 1) = Q.tq v i := fun h => by
        rw [← ht]
        obtain ⟨k, rfl⟩ : ∃ k, m = k + 1 := ⟨m - 1, by omega⟩
        rw [ek] at h
        show Q.tq v k = _
        simp only [Q.tq, Nat.add_sub_cancel] at h ⊢
        rw [if_pos h]
      have hz' : v ((m : Int) - 1).toNat ≠ 0 → m = Q.tq v n := fun h => by
        rw [← e, ← ht]
        obtain ⟨k, rfl⟩ : ∃ k, m = k + 1 := ⟨m - 1, by omega⟩
        rw [ek] at h
        simp only [Q.tq, Nat.add_sub_cancel] at h ⊢
        rw [if_neg h]
      conv => whnf
      refine ⟨i64 (by omega) (by omega), ?_⟩
      conv => whnf
      refine ⟨by omega, ?_⟩
      conv => whnf
      refine ⟨by show ((m : Int) - 1) < (i : Int); omega, ?_⟩
      conv => whnf
      refine ⟨_, hs, ?_⟩
      conv => whnf
      refine bcase (fun (h3 : decide ((v ((m : Int) - 1).toNat).num.sign = 0) = true) => ?_) fun (h3 : decide ((v ((m : Int) - 1).toNat).num.sign = 0) = false) => ?_
      · have h3 := Rat.num_eq_zero.1 (Int.sign_eq_zero_iff_zero.1 (of_decide_eq_true h3))
        have g3 := hz h3
        conv => whnf
        refine ⟨i64 (by omega) (by omega), ?_⟩
        conv => whnf
        exact ⟨m - 1, by omega, Weak.gen [some 0] rfl ⟨⟨_, rfl, rfl, rfl, rfl, rfl, fun j k hj hk => regE rfl (ql_clos (c := fun i => ofR (v i)) j k)⟩, trivial⟩ ⟨⟨_, rfl, rfl, rfl⟩, ⟨_, rfl, by omega⟩, trivial⟩, by omega, g3⟩
      · have h3 := hz' fun e => of_decide_eq_false h3 (by rw [e]; rfl)
        conv => whnf
        refine ⟨by omega, by omega, ?_⟩
        conv => whnf
        refine ⟨by show (m : Int) ≤ (i : Int); omega, ?_⟩
        conv => whnf
        refine ⟨fun j k _ _ => ql_clos (c := fun i => ofR (v i)) j k, ?_⟩
        conv => whnf
        exact ⟨rfl, subRowG (by show ((m : Int) - 0).toNat = _; omega) fun j k _ _ => qlF_eq (c := fun i => ofR (v i)) (e := fun i => ofR (v i)) (i := Int.toNat 0 + j) (k := j) (congrArg (fun t => ofR (v t)) (by omega))⟩
    · have h : ¬ (0 : Int) < m := of_decide_eq_false (gw_false.1 h)
      have h3 : Q.tq v n = 0 := by rw [← e, ← ht]; rw [show m = 0 by omega]; rfl
      conv => whnf
      refine ⟨by omega, by omega, ?_⟩
      conv => whnf
      refine ⟨by show (m : Int) ≤ (i : Int); omega, ?_⟩
      conv => whnf
      refine ⟨fun j k _ _ => ql_clos (c := fun i => ofR (v i)) j k, ?_⟩
      conv => whnf
      exact ⟨rfl, subRowG (by show ((m : Int) - 0).toNat = _; omega) fun j k _ _ => qlF_eq (c := fun i => ofR (v i)) (e := fun i => ofR (v i)) (i := Int.toNat 0 + j) (k := j) (congrArg (fun t => ofR (v t)) (by omega))⟩
set_option maxHeartbeats 4000000 in
theorem degree6_ok {n : Nat} {q : Nat → RawR} {v : Nat → Rat} (hn : n ≤ 4096) (hv : ∀ i, i < n → (q i).val = v i) (hq : ∀ i, i < n → wq (q i)) (hl : ∀ i, i < n → qlen (v i) ≤ 524286) : FnOK Tryz.prog false 9 [.c (ql n q)] (.c (.int .i64 ((Q.tq v n : Nat) - 1))) := by
  have s := normal6_ok hn hv hq hl
  have hl := Q.tq_le v n
  refine fn_ok (E := E0) E0_ok Tryz.func9 rfl mixed (by kernel_rfl) (by kernel_rfl) ?_
  conv => whnf
  refine ⟨_, s, ?_⟩
  conv => whnf
  refine ⟨i64 (by omega) (by omega), ?_⟩
  conv => whnf
  exact ⟨rfl, Sub.refl _⟩
theorem sub_nil0 {sz n : Nat} {f : Nat → Nat → Cell} (h : n = 0) : Sub (.c .nil) (.c (.row sz n f)) := by
  subst h
  intro D w v hv
  have hv : v = .slice none 0 0 := hv
  exact ⟨none, 0, hv, Nat.le_refl _, fun h => absurd h (Nat.lt_irrefl 0)⟩
/-- The first i terms of a product's coefficient. -/
abbrev cfi (F G : Nat → Rat) (k i : Nat) : Rat := Q.su (fun a => F a * G (k - a)) i
set_option maxHeartbeats 8000000 in
theorem mul6_ok {n m : Nat} {q p : Nat → RawR} {F G : Nat → Rat} (hF : Q.qx n (fun i => (q i).val) = F) (hG : Q.qx m (fun i => (p i).val) = G) (hn : n ≤ 1024) (hm : m ≤ 1024) (hq : ∀ i, i < n → wq (q i)) (hp : ∀ i, i < m → wq (p i)) (lF : ∀ i, qlen (F i) ≤ 65535) (lG : ∀ i, qlen (G i) ≤ 65535) (hs : ∀ k i, qlen (cfi F G k i) ≤ 131070) : FnOK Tryz.prog false 10 [.c (ql n q), .c (ql m p)] (.c (nql (Q.tq (Q.cf F G) (n + m)) (Q.cf F G))) := by
  have s1 := normal6_ok (n := n) (q := q) (v := F) (by omega) (fun i hi => by rw [← hF]; exact (Q.qx_lt (v := fun i => (q i).val) hi).symm) hq fun i _ => by have := lF i; omega
  have s2 := normal6_ok (n := m) (q := p) (v := G) (by omega) (fun i hi => by rw [← hG]; exact (Q.qx_lt (v := fun i => (p i).val) hi).symm) hp fun i _ => by have := lG i; omega
  have f1 : Q.Fin (Q.tq F n) F := Q.tq_fin (by rw [← hF]; exact Q.qx_fin _ _)
  have f2 : Q.Fin (Q.tq G m) G := Q.tq_fin (by rw [← hG]; exact Q.qx_fin _ _)
  have l1 := Q.tq_le F n
  have l2 := Q.tq_le G m
  have fN : Q.Fin (n + m) (Q.cf F G) := (f1.cf f2).mono (by omega)
  generalize Q.tq F n = a at *
  generalize Q.tq G m = b at *
  have z1 : a = 0 → Q.tq (Q.cf F G) (n + m) = 0 := fun e => tq_zero (fun k => Q.su_zero fun i _ => by rw [f1 i (by omega), Rat.zero_mul]) _
  have z2 : b = 0 → Q.tq (Q.cf F G) (n + m) = 0 := fun e => tq_zero (fun k => Q.su_zero fun i _ => by rw [f2 (k - i) (by omega), Rat.mul_zero]) _
  have z3 : a ≠ 0 → b ≠ 0 → ∀ k, k = a + b - 1 → Q.tq (Q.cf F G) k = Q.tq (Q.cf F G) (n + m) := fun e1 e2 k e => Q.tq_eq (fun k hk => Q.su_zero fun i hi => by
    rcases Nat.lt_or_ge i a with c | c
    · rw [f2 (k - i) (by omega), Rat.mul_zero]
    · rw [f1 i c, Rat.zero_mul]) fN
  have s3 : ∀ k, k ≤ a + b → FnOK Tryz.prog false 13 [.c (nql k (Q.cf F G))] (.c (nql (Q.tq (Q.cf F G) k) (Q.cf F G))) := fun k hk => normal6_ok (by omega) (fun i _ => ofR_val _) (fun i _ => wq_n (by have := hs i (i + 1); have : qlen (Q.cf F G i) ≤ 131070 := this; omega)) fun i _ => by have := hs i (i + 1); have : qlen (Q.cf F G i) ≤ 131070 := this; omega
  have m0 : ∀ k i : Nat, FnOK Tryz.prog false 37 [.g (nq (F i)), .g (nq (G ((k : Int) - (i : Int)).toNat))] (.g (nq (F i * G (k - i)))) := fun k i => by
    rw [show ((k : Int) - (i : Int)).toNat = k - i by omega]
    exact rqmul_n (lF i) (lG _)
  have a0 : ∀ k i, FnOK Tryz.prog false 36 [.g (nq (cfi F G k i)), .g (nq (F i * G (k - i)))] (.g (nq (cfi F G k (i + 1)))) := fun k i => rqadd_n (hs k i) (qlen_mul (lF i) (lG _) (by decide))
  have e0 : ∀ k i, i ≤ k → (a ≤ i ∨ b ≤ k - i) → cfi F G k i = cfi F G k (i + 1) := fun k i _ h => by
    show _ = cfi F G k i + F i * G (k - i)
    rcases h with h | h
    · rw [f1 i h, Rat.zero_mul, Rat.add_zero]
    · rw [f2 (k - i) h, Rat.mul_zero, Rat.add_zero]
  have o0 := rqof_zero
  obtain ⟨S, hS⟩ : ∃ S : Nat → Nat → Rat, S = cfi F G := ⟨_, rfl⟩
  have hS1 : ∀ k, S k (k + 1) = Q.cf F G k := fun k => by rw [hS]; rfl
  have hS0 : ∀ k, S k 0 = 0 := fun k => by rw [hS]; rfl
  rw [← hS] at a0 e0
  clear hS hs lF lG hq hp hF hG f1 f2 fN
  generalize Q.cf F G = C at *
  refine fn_ok (E := E0) E0_ok Tryz.func10 rfl mixed (by kernel_rfl) (by kernel_rfl) ?_
  conv => whnf
  refine ⟨_, s1, ?_⟩
  conv => whnf
  refine ⟨_, s2, ?_⟩
  conv => whnf
  refine bcase (fun (h : gw false (decide ((a : Int) = 0)) = true) => ?_) fun (h : gw false (decide ((a : Int) = 0)) = false) => ?_
  · have h : a ≠ 0 := by have := of_decide_eq_false (gwf h); omega
    conv => whnf
    refine bcase (fun (h2 : decide ((b : Int) = 0) = true) => ?_) fun (h2 : decide ((b : Int) = 0) = false) => ?_
    · have h2 : b = 0 := by have := of_decide_eq_true h2; omega
      conv => whnf
      exact ⟨rfl, sub_nil0 (z2 h2)⟩
    have h2 : b ≠ 0 := by have := of_decide_eq_false h2; omega
    have z3 := z3 h h2
    conv => whnf
    refine loop_ints (fun k : Nat => gst [(5, .c (nql a F)), (6, .c (nql b G)), (7, .c (.gs 0 0)), (8, .c (.int .i64 k))] [gqr k fun i => ofR (C i)]) (fun k => a + b - 1 - k) (fun k => k ≤ a + b - 1) 0 rfl (Weak.gen [none] rfl ⟨rfl, trivial⟩ ⟨.inl ⟨_, _, rfl, rfl, fun _ _ _ _ => rfl⟩, .inl ⟨_, _, rfl, rfl, fun _ _ _ _ => rfl⟩, rfl, ⟨_, rfl, rfl⟩, trivial⟩) (Nat.zero_le _) fun k hk => ?_
    have s3 := s3 k
    have z3 := z3 k
    have m0 := m0 k
    have a0 := a0 k
    have e0 := e0 k
    have hS1 := hS1 k
    have hS0 := hS0 k
    conv => whnf
    refine ⟨i64 (by omega) (by omega), ?_⟩
    conv => whnf
    refine ⟨i64 (by omega) (by omega), ?_⟩
    conv => whnf
    refine bcase (fun (h3 : decide ((k : Int) < (a : Int) + (b : Int) - 1) = true) => ?_) fun (h3 : decide ((k : Int) < (a : Int) + (b : Int) - 1) = false) => ?_
    · have h3 := of_decide_eq_true h3
      conv => whnf
      refine ⟨_, o0, ?_⟩
      conv => whnf
      refine loop_ints (fun i : Nat => gst [(5, .c (nql a F)), (6, .c (nql b G)), (7, .c (.gs 0 0)), (8, .c (.int .i64 k)), (9, .c (.p 1 0 4 0 0)), (10, .c (.int .i64 i))] [gqr k fun i => ofR (C i), ⟨63, 4, 1, boxF (nq (S k i))⟩]) (fun i => k + 1 - i) (fun i => i ≤ k + 1) 0 rfl (Weak.gen [some 0, some 1] rfl ⟨⟨_, rfl, rfl, rfl, rfl, rfl, fun x y hx hy => regE rfl (ql_clos (c := fun i => ofR (C i)) x y)⟩, (by rw [hS0]; exact boxU rfl rfl rfl), trivial⟩ ⟨.inl ⟨_, _, rfl, rfl, fun _ _ _ _ => rfl⟩, .inl ⟨_, _, rfl, rfl, fun _ _ _ _ => rfl⟩, ⟨_, rfl, rfl, rfl⟩, ⟨_, rfl, rfl⟩, ⟨_, rfl, rfl, rfl⟩, ⟨_, rfl, rfl⟩, trivial⟩) (Nat.zero_le _) fun i hi => ?_
      have m0 := m0 i
      have a0 := a0 i
      have e0 := e0 i
      conv => whnf
      refine bcase (fun (h4 : decide ((i : Int) ≤ k) = true) => ?_) fun (h4 : decide ((i : Int) ≤ k) = false) => ?_
      · have h4 := of_decide_eq_true h4
        conv => whnf
        refine bcase (fun (h5 : gw true (decide ((i : Int) < a)) = true) => ?_) fun (h5 : gw true (decide ((i : Int) < a)) = false) => ?_
        · have h5 := of_decide_eq_true (gw_true.1 h5)
          conv => whnf
          refine ⟨i64 (by omega) (by omega), ?_⟩
          conv => whnf
          refine bcase (fun (h6 : decide ((k : Int) - (i : Int) < b) = true) => ?_) fun (h6 : decide ((k : Int) - (i : Int) < b) = false) => ?_
          · have h6 := of_decide_eq_true h6
            conv => whnf
            refine ⟨by omega, by omega, ?_⟩
            conv => whnf
            refine ⟨i64 (by omega) (by omega), ?_⟩
            conv => whnf
            refine ⟨by omega, by omega, ?_⟩
            conv => whnf
            refine ⟨_, m0, ?_⟩
            conv => whnf
            refine ⟨_, a0, ?_⟩
            conv => whnf
            refine ⟨i64 (by omega) (by omega), ?_⟩
            conv => whnf
            exact ⟨i + 1, by omega, Weak.gen [some 0, some 1] rfl ⟨⟨_, rfl, rfl, rfl, rfl, rfl, fun x y hx hy => regE rfl (ql_clos (c := fun i => ofR (C i)) x y)⟩, boxU rfl rfl rfl, trivial⟩ ⟨.inl ⟨_, _, rfl, rfl, fun _ _ _ _ => rfl⟩, .inl ⟨_, _, rfl, rfl, fun _ _ _ _ => rfl⟩, ⟨_, rfl, rfl, rfl⟩, ⟨_, rfl, rfl⟩, ⟨_, rfl, rfl, rfl⟩, ⟨_, rfl, rfl⟩, trivial⟩, by omega⟩
          · have h6 := of_decide_eq_false h6
            have e0 := e0 (by omega) (.inr (by omega))
            conv => whnf
            refine ⟨i64 (by omega) (by omega), ?_⟩
            conv => whnf
            exact ⟨i + 1, by omega, Weak.gen [some 0, some 1] rfl ⟨⟨_, rfl, rfl, rfl, rfl, rfl, fun x y hx hy => regE rfl (ql_clos (c := fun i => ofR (C i)) x y)⟩, (by rw [← e0]; exact boxK rfl rfl), trivial⟩ ⟨.inl ⟨_, _, rfl, rfl, fun _ _ _ _ => rfl⟩, .inl ⟨_, _, rfl, rfl, fun _ _ _ _ => rfl⟩, ⟨_, rfl, rfl, rfl⟩, ⟨_, rfl, rfl⟩, ⟨_, rfl, rfl, rfl⟩, ⟨_, rfl, rfl⟩, trivial⟩, by omega⟩
        · have h5 := of_decide_eq_false (gw_false.1 h5)
          have e0 := e0 (by omega) (.inl (by omega))
          conv => whnf
          refine ⟨i64 (by omega) (by omega), ?_⟩
          conv => whnf
          exact ⟨i + 1, by omega, Weak.gen [some 0, some 1] rfl ⟨⟨_, rfl, rfl, rfl, rfl, rfl, fun x y hx hy => regE rfl (ql_clos (c := fun i => ofR (C i)) x y)⟩, (by rw [← e0]; exact boxK rfl rfl), trivial⟩ ⟨.inl ⟨_, _, rfl, rfl, fun _ _ _ _ => rfl⟩, .inl ⟨_, _, rfl, rfl, fun _ _ _ _ => rfl⟩, ⟨_, rfl, rfl, rfl⟩, ⟨_, rfl, rfl⟩, ⟨_, rfl, rfl, rfl⟩, ⟨_, rfl, rfl⟩, trivial⟩, by omega⟩
      · have h4 := of_decide_eq_false h4
        have ei : S k i = C k := by rw [show i = k + 1 by omega]; exact hS1
        conv => whnf
        refine ⟨by show k + 1 ≤ 16777216; omega, fun x y hx hy => one_nq (S k i) _ x y hx hy, ?_⟩
        conv => whnf
        refine ⟨i64 (by omega) (by omega), ?_⟩
        conv => whnf
        refine ⟨k + 1, by omega, Weak.gen [some 0] rfl ⟨⟨_, rfl, rfl, rfl, rfl, rfl, fun x y hx hy => regE ?_ (ql_clos (c := fun i => ofR (C i)) x y)⟩, trivial⟩ ⟨.inl ⟨_, _, rfl, rfl, fun _ _ _ _ => rfl⟩, .inl ⟨_, _, rfl, rfl, fun _ _ _ _ => rfl⟩, ⟨_, rfl, rfl, rfl⟩, ⟨_, rfl, rfl⟩, trivial⟩, by omega⟩
        exact appG (sz := 4) (g := fun k => nq (C k)) (g' := fun k => nq (C k)) (l := nq (S k i)) (by rw [ei]; exact app_sameq C k x) (Nat.le_refl (k + 1)) hx
    · have h3 := of_decide_eq_false h3
      have s3 := s3 (by omega)
      rw [z3 (by omega)] at s3
      conv => whnf
      refine ⟨fun x y _ _ => ql_clos (c := fun i => ofR (C i)) x y, ?_⟩
      conv => whnf
      refine ⟨_, s3, ?_⟩
      conv => whnf
      exact ⟨rfl, Sub.refl _⟩
  · have h : a = 0 := by have := of_decide_eq_true (gwf' h); omega
    conv => whnf
    exact ⟨rfl, sub_nil0 (z1 h)⟩
end Rf
end Go.Proofs.YtigciplaoikcfaaGreat
