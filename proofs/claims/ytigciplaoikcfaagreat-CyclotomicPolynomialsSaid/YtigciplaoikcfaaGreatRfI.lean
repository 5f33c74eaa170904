/- The document's division of digits. -/
import Derived.Test.YtigciplaoikcfaaGreatRfE
namespace Go.Proofs.YtigciplaoikcfaaGreat
open Go.RowKit
namespace Rf
theorem bit_step {x T Q R : Nat} (h : x = 2 * T * Q + R) (hR : R < 2 * T) : (R < T → x / T = 2 * Q ∧ x % T = R) ∧ (¬ R < T → x / T = 2 * Q + 1 ∧ x % T = R - T) := by
  have e : x = R + T * (2 * Q) := by rw [h, Nat.mul_comm 2 T, Nat.mul_assoc]; omega
  refine ⟨fun c => ?_, fun c => ?_⟩
  · rw [e, Nat.add_mul_div_left _ _ (by omega), Nat.add_mul_mod_self_left, Nat.div_eq_of_lt c, Nat.mod_eq_of_lt c]
    exact ⟨by omega, rfl⟩
  · have e2 : x = (R - T) + T * (2 * Q + 1) := by rw [Nat.mul_add T (2 * Q) 1]; omega
    rw [e2, Nat.add_mul_div_left _ _ (by omega), Nat.add_mul_mod_self_left, Nat.div_eq_of_lt (by omega), Nat.mod_eq_of_lt (by omega)]
    exact ⟨by omega, rfl⟩
theorem add_bit {V j m : Nat} (hV : V % 2 ^ (j + 1) = 0) (hm : V < BB ^ m) (hp : j / 32 < m) : dg V (j / 32) + 2 ^ (j % 32) < BB ∧ ∀ i, i < m → dg (V + 2 ^ j) i = upd (dg V) (j / 32) (dg V (j / 32) + 2 ^ (j % 32)) i := by
  obtain ⟨p, ep⟩ : ∃ p, p = j / 32 := ⟨_, rfl⟩
  obtain ⟨r, er⟩ : ∃ r, r = j % 32 := ⟨_, rfl⟩
  have hr : r < 32 := by omega
  have e2 : 2 ^ j = BB ^ p * 2 ^ r := by rw [two_split, ← ep, ← er]
  rw [← ep, ← er]
  rw [← ep] at hp
  obtain ⟨Z, hZ⟩ : ∃ Z, V = 2 ^ (j + 1) * Z := ⟨V / 2 ^ (j + 1), by have := Nat.mod_add_div V (2 ^ (j + 1)); omega⟩
  have e3 : V = BB ^ p * (2 ^ (r + 1) * Z) := by rw [hZ, Nat.pow_succ, e2, Nat.pow_succ, Nat.mul_assoc, Nat.mul_assoc, Nat.mul_assoc]
  have hd : dg V p = 2 ^ (r + 1) * (Z % 2 ^ (31 - r)) := by
    unfold dg
    rw [e3, Nat.mul_div_cancel_left _ (BB_pos p), show BB = 2 ^ (r + 1) * 2 ^ (31 - r) by rw [← Nat.pow_add, show r + 1 + (31 - r) = 32 by omega], Nat.mul_mod_mul_left]
  have hlt : dg V p + 2 ^ r < BB := by
    rw [hd, show BB = 2 ^ (r + 1) * 2 ^ (31 - r) by rw [← Nat.pow_add, show r + 1 + (31 - r) = 32 by omega]]
    have h1 := Nat.mod_lt Z (show 0 < 2 ^ (31 - r) from Nat.pow_pos (by decide))
    have h2 := Nat.mul_le_mul_left (2 ^ (r + 1)) (show Z % 2 ^ (31 - r) + 1 ≤ 2 ^ (31 - r) from h1)
    have h3 : 2 ^ (r + 1) = 2 ^ r * 2 := Nat.pow_succ ..
    have h4 : 0 < 2 ^ r := Nat.pow_pos (by decide)
    rw [Nat.mul_add] at h2
    omega
  refine ⟨hlt, fun i hi => ?_⟩
  have hu := upd_ok (j := p) (dg_ok V m) hlt
  have hn := nv_upd (d := dg V) (v := dg V p + 2 ^ r) hp
  rw [dg_full hm, Nat.mul_add, ← e2] at hn
  have : nv (upd (dg V) p (dg V p + 2 ^ r)) m = V + 2 ^ j := by omega
  rw [← this]
  exact dg_nv hu hi
theorem top_quot {x y s : Nat} (hy : 0 < y) (hs : lb x = s + lb y) : x < 2 ^ (s + 1) * y := by
  have h1 := lb_lt x
  have h2 := lb_ge (show y ≠ 0 by omega)
  obtain ⟨t, ht⟩ : ∃ t, lb y = t + 1 := ⟨lb y - 1, by unfold lb; rw [if_neg (by omega)]; omega⟩
  rw [hs, ht, show s + (t + 1) = s + 1 + t by omega, Nat.pow_add] at h1
  rw [ht, Nat.add_sub_cancel] at h2
  exact Nat.lt_of_lt_of_le h1 (Nat.mul_le_mul_left _ h2)
theorem low_quot {x y : Nat} (h : lb x < lb y) : x < y := by
  have h1 := lb_lt x
  have h2 := lb_ge (show y ≠ 0 by intro e; subst e; simp [lb] at h)
  exact Nat.lt_of_lt_of_le h1 (Nat.le_trans (Nat.pow_le_pow_right (by decide) (by omega)) h2)
theorem lb_digs {x n : Nat} (h : (digs x).length ≤ n) : lb x ≤ 32 * n := by
  refine lb_le (Nat.lt_of_lt_of_le (lt_digs x) ?_)
  rw [BB_two]
  exact Nat.pow_le_pow_right (by decide) (by omega)
theorem subNil (f : Nat → Nat) : Sub (.c .nil) (.c (dn 0 f)) := fun D w v h => by
  have h : v = .slice none 0 0 := h
  exact ⟨none, 0, h, Nat.le_refl _, fun h => absurd h (Nat.lt_irrefl _)⟩
theorem updN {d e : Nat → Nat} {p j k : Nat} {v : Int} (hk : k < 1) (h : (if j = p then v else (d j : Nat)) = (e j : Nat)) : updF (fun i _ => .int .u32 (d i : Nat)) p 0 [.int .u32 v] j k = .int .u32 (e j : Nat) := by
  obtain rfl := Nat.lt_one_iff.1 hk
  unfold updF
  by_cases c : j = p
  · rw [if_pos ⟨c, Nat.le_refl _, by simp⟩, ← h, if_pos c]; rfl
  · rw [if_neg (fun h => c h.1), ← h, if_neg c]
theorem put_bit {d : Nat → Nat} {e p r a t : Nat} {w : Int} (ht : t = p) (hw : w = (r : Nat)) (hr : r < 32) (h3 : d p + 2 ^ r < BB) (h4 : e = upd d p (d p + 2 ^ r) a) : (if a = t then IntKind.u32.wrap ((d t : Int) + IntKind.u32.wrap (1 * 2 ^ min (Int.toNat w) 32)) else (d a : Nat)) = (e : Nat) := by
  subst ht hw h4
  have h6 : 2 ^ r < BB := by omega
  rw [Int.toNat_natCast, Nat.min_eq_left (by omega), Int.one_mul, show ((2 : Int) ^ r) = ((2 ^ r : Nat) : Int) by rw [Int.natCast_pow]; rfl, w32, Nat.mod_eq_of_lt h6, ← Int.natCast_add, w32, Nat.mod_eq_of_lt h3]
  unfold upd
  split <;> rfl
/-- The quotient's digits, so many of them. -/
def DivOK (x y : Nat) : Prop := ∃ m, x / y < BB ^ m ∧ m ≤ 524288 ∧ FnOK Tryz.prog false 140 [.c (dsC (digs x)), .c (dsC (digs y))] (.t2 (.c (dn m (dg (x / y)))) (.c (dsC (digs (x % y)))))
theorem dig_dg (q : Nat) : ∀ i, i < (digs q).length → ld (digs q) i = dg q i := fun i hi => by
  have := dg_nv (ld_ok (digs_ok q) (digs q).length) hi
  rw [nv_digs] at this
  exact this.symm
set_option maxHeartbeats 8000000 in
theorem divided_two {x y : Nat} (hy : 0 < y) (hx : (digs x).length ≤ 2) (hy2 : (digs y).length ≤ 2) : DivOK x y := by
  have wx := word_ok (ld_ok (digs_ok x) (digs x).length) hx
  have wy := word_ok (ld_ok (digs_ok y) (digs y).length) hy2
  rw [nv_digs] at wx wy
  have lx : x < 18446744073709551616 := Nat.lt_of_lt_of_le (lt_digs x) (show BB ^ (digs x).length ≤ BB ^ 2 from Nat.pow_le_pow_right (by decide) hx)
  have h1 : x / y ≤ x := Nat.div_le_self _ _
  have h2 : x % y ≤ x := Nat.mod_le _ _
  have s1 := split_ok (x := x / y) (by omega)
  have s2 := split_ok (x := x % y) (by omega)
  have q1 : Int.tdiv (x : Int) (y : Int) = (x / y : Nat) := by rw [Int.tdiv_eq_ediv_of_nonneg (by omega)]; rfl
  have q2 : Int.tmod (x : Int) (y : Int) = (x % y : Nat) := by rw [Int.tmod_eq_emod_of_nonneg (by omega)]; rfl
  have hl := digs_le h1
  refine ⟨(digs (x / y)).length, lt_digs _, by omega, ?_⟩
  have hdg := dig_dg (x / y)
  have ny : (y : Int) ≠ 0 := by omega
  have hq : x / y < 18446744073709551616 := Nat.lt_of_le_of_lt h1 lx
  rw [← q1] at s1
  rw [← q2] at s2
  refine fn_ok (E := E0) E0_ok Tryz.func140 rfl mixed (by kernel_rfl) (by kernel_rfl) ?_
  conv => whnf
  refine bpos (gw_true.2 (show decide (((digs x).length : Int) ≤ 2) = true from decide_eq_true (by omega))) ?_
  conv => whnf
  refine bpos (show decide (((digs y).length : Int) ≤ 2) = true from decide_eq_true (by omega)) ?_
  conv => whnf
  refine ⟨_, wx, ?_⟩
  conv => whnf
  refine ⟨_, wy, ?_⟩
  conv => whnf
  refine ⟨ny, ⟨by rw [q1]; exact Int.natCast_nonneg _, by rw [q1]; exact Int.ofNat_lt.2 hq⟩, ?_⟩
  conv => whnf
  refine ⟨_, s1, ?_⟩
  conv => whnf
  refine ⟨_, wx, ?_⟩
  conv => whnf
  refine ⟨_, wy, ?_⟩
  conv => whnf
  refine ⟨ny, ?_⟩
  conv => whnf
  refine ⟨_, s2, ?_⟩
  conv => whnf
  exact ⟨rfl, subT2 (subDn rfl hdg) (Sub.refl _)⟩
set_option maxHeartbeats 16000000 in
theorem divided_many {x y : Nat} (hy : 0 < y) (hx : (digs x).length ≤ 524287) (hy2 : (digs y).length ≤ 524287) (h2 : ¬ ((digs x).length ≤ 2 ∧ (digs y).length ≤ 2)) : DivOK x y := by
  have b1 := rbits_ok (s := false) (ld_ok (digs_ok x) (digs x).length) (by omega)
  have b2 := rbits_ok (s := false) (ld_ok (digs_ok y) (digs y).length) (by omega)
  rw [nv_digs] at b1 b2
  have l1 := lb_digs hx
  have l2 := lb_digs hy2
  by_cases c : lb x < lb y
  · have hlt := low_quot c
    refine ⟨0, by rw [Nat.div_eq_of_lt hlt]; decide, by omega, ?_⟩
    rw [Nat.mod_eq_of_lt hlt]
    refine fn_ok (E := E0) E0_ok Tryz.func140 rfl mixed (by kernel_rfl) (by kernel_rfl) ?_
    by_cases d : (digs x).length ≤ 2
    · have d2 : ¬ (digs y).length ≤ 2 := fun h => h2 ⟨d, h⟩
      conv => whnf
      refine bpos (gw_true.2 (show decide (((digs x).length : Int) ≤ 2) = true from decide_eq_true (by omega))) ?_
      conv => whnf
      refine bneg (show decide (((digs y).length : Int) ≤ 2) = false from decide_eq_false (by omega)) ?_
      conv => whnf
      refine ⟨_, b1, ?_⟩
      conv => whnf
      refine ⟨_, b2, ?_⟩
      conv => whnf
      refine ⟨i64 (by omega) (by omega), ?_⟩
      conv => whnf
      refine bpos (show decide (((lb x : Nat) : Int) - (lb y : Nat) < 0) = true from decide_eq_true (by omega)) ?_
      conv => whnf
      exact ⟨rfl, subT2 (subNil _) (Sub.refl _)⟩
    · conv => whnf
      refine bneg (gw_false.2 (show decide (((digs x).length : Int) ≤ 2) = !true from decide_eq_false (by omega))) ?_
      conv => whnf
      refine ⟨_, b1, ?_⟩
      conv => whnf
      refine ⟨_, b2, ?_⟩
      conv => whnf
      refine ⟨i64 (by omega) (by omega), ?_⟩
      conv => whnf
      refine bpos (show decide (((lb x : Nat) : Int) - (lb y : Nat) < 0) = true from decide_eq_true (by omega)) ?_
      conv => whnf
      exact ⟨rfl, subT2 (subNil _) (Sub.refl _)⟩
  have d : ¬ (digs x).length ≤ 2 := fun d => h2 ⟨d, by
    rcases Nat.lt_or_ge 2 (digs y).length with e | e
    · refine absurd ?_ c
      have h1 := lb_digs d
      have h3 := lb_ge (show y ≠ 0 by omega)
      have h4 := digs_pow (x := y) (k := (digs y).length - 1) (by omega)
      have h5 : BB ^ 2 ≤ y := Nat.le_trans (Nat.pow_le_pow_right (by decide) (by omega)) h4
      have h6 : 2 ^ 64 < 2 ^ lb y := Nat.lt_of_le_of_lt h5 (lb_lt y)
      have := (Nat.pow_lt_pow_iff_right (a := 2) (by decide)).1 h6
      omega
    · exact e⟩
  obtain ⟨s, hs⟩ : ∃ s, lb x = s + lb y := ⟨lb x - lb y, by omega⟩
  have hxs := top_quot hy hs
  obtain ⟨m, em⟩ : ∃ m, m = s / 32 + 1 := ⟨_, rfl⟩
  obtain ⟨V, eV⟩ : ∃ V : Nat → Nat, V = fun k => x / (2 ^ k * y) * 2 ^ k := ⟨_, rfl⟩
  obtain ⟨R, eR⟩ : ∃ R : Nat → Nat, R = fun k => x % (2 ^ k * y) := ⟨_, rfl⟩
  have V0 : V 0 = x / y := by rw [eV]; simp
  have R0 : R 0 = x % y := by rw [eR]; simp
  have Vs : V (s + 1) = 0 := by rw [eV]; show x / (2 ^ (s + 1) * y) * 2 ^ (s + 1) = 0; rw [Nat.div_eq_of_lt hxs, Nat.zero_mul]
  have Rs : R (s + 1) = x := by rw [eR]; exact Nat.mod_eq_of_lt hxs
  have Rx : ∀ k, R k ≤ x := fun k => by rw [eR]; exact Nat.mod_le _ _
  have hb := fun j => bit_step (x := x) (T := 2 ^ j * y) (Q := x / (2 ^ (j + 1) * y)) (R := R (j + 1)) (by
    have := Nat.div_add_mod x (2 ^ (j + 1) * y)
    rw [eR]
    show _ = 2 * (2 ^ j * y) * (x / (2 ^ (j + 1) * y)) + x % (2 ^ (j + 1) * y)
    rw [show 2 * (2 ^ j * y) = 2 ^ (j + 1) * y by rw [Nat.pow_succ, Nat.mul_comm (2 ^ j) 2, Nat.mul_assoc]]
    exact this.symm) (by
    rw [eR, show 2 * (2 ^ j * y) = 2 ^ (j + 1) * y by rw [Nat.pow_succ, Nat.mul_comm (2 ^ j) 2, Nat.mul_assoc]]
    exact Nat.mod_lt _ (Nat.mul_pos (Nat.pow_pos (by decide)) hy))
  have lo : ∀ j, R (j + 1) < 2 ^ j * y → V j = V (j + 1) ∧ R j = R (j + 1) := fun j h => by
    obtain ⟨k1, k2⟩ := (hb j).1 h
    refine ⟨?_, ?_⟩
    · rw [eV]; show x / (2 ^ j * y) * 2 ^ j = x / (2 ^ (j + 1) * y) * 2 ^ (j + 1)
      rw [k1, Nat.pow_succ, Nat.mul_comm (2 ^ j) 2, ← Nat.mul_assoc, Nat.mul_comm 2]
    · rw [← k2, eR]
  have hi : ∀ j, ¬ R (j + 1) < 2 ^ j * y → V j = V (j + 1) + 2 ^ j ∧ R j = R (j + 1) - 2 ^ j * y := fun j h => by
    obtain ⟨k1, k2⟩ := (hb j).2 h
    refine ⟨?_, ?_⟩
    · rw [eV]; show x / (2 ^ j * y) * 2 ^ j = x / (2 ^ (j + 1) * y) * 2 ^ (j + 1) + 2 ^ j
      rw [k1, Nat.pow_succ, Nat.mul_comm (2 ^ j) 2, ← Nat.mul_assoc, Nat.mul_comm _ 2, Nat.add_mul, Nat.one_mul]
    · rw [← k2, eR]
  have Vm : ∀ j, V (j + 1) % 2 ^ (j + 1) = 0 := fun j => by rw [eV]; exact Nat.mul_mod_left _ _
  have Vl : ∀ k, V k < BB ^ m := fun k => by
    have h1 : V k * y ≤ x := by
      rw [eV]; show x / (2 ^ k * y) * 2 ^ k * y ≤ x
      rw [Nat.mul_assoc]; exact Nat.div_mul_le_self _ _
    have h3 : BB ^ m ≥ 2 ^ (s + 1) := by rw [BB_two]; exact Nat.pow_le_pow_right (by decide) (by omega)
    have h4 : V k * y < 2 ^ (s + 1) * y := Nat.lt_of_le_of_lt h1 hxs
    exact Nat.lt_of_lt_of_le (Nat.lt_of_mul_lt_mul_right h4) h3
  clear eV eR hb
  have sh := fun j (hj : j ≤ s) => shifted_ok (s := j) (ld_ok (digs_ok y) (digs y).length) hy2 (by omega)
  rw [nv_digs] at sh
  have bl := fun j => below_ok (R (j + 1)) (2 ^ j * y) (Nat.le_trans (digs_le (Rx (j + 1))) (by omega))
  have mi := fun j (h : 2 ^ j * y ≤ R (j + 1)) => minus_nz (R (j + 1)) (2 ^ j * y) (Nat.le_trans (digs_le (Rx (j + 1))) (by omega)) h
  have tr := fun j => rtrim_ok (dg_ok (R (j + 1) - 2 ^ j * y) (digs (R (j + 1))).length) (Nat.le_trans (digs_le (Rx (j + 1))) (by omega))
  have tr : ∀ j, FnOK Tryz.prog false 132 [.c (dn (digs (R (j + 1))).length (dg (R (j + 1) - 2 ^ j * y)))] (.c (dsC (digs (R (j + 1) - 2 ^ j * y)))) := fun j => by
    have := tr j
    rwa [dg_full (Nat.lt_of_le_of_lt (Nat.sub_le _ _) (lt_digs _))] at this
  have ab := fun j (h : j / 32 < m) => add_bit (Vm j) (Vl (j + 1)) h
  refine ⟨m, by rw [← V0]; exact Vl 0, by omega, ?_⟩
  rw [← V0, ← R0]
  have q1 : Int.tdiv (s : Int) 32 = (s / 32 : Nat) := by rw [Int.tdiv_eq_ediv_of_nonneg (by omega)]; omega
  refine fn_ok (E := E0) E0_ok Tryz.func140 rfl mixed (by kernel_rfl) (by kernel_rfl) ?_
  conv => whnf
  refine bneg (gw_false.2 (show decide (((digs x).length : Int) ≤ 2) = !true from decide_eq_false (by omega))) ?_
  conv => whnf
  refine ⟨_, b1, ?_⟩
  conv => whnf
  refine ⟨_, b2, ?_⟩
  conv => whnf
  refine ⟨i64 (by omega) (by omega), ?_⟩
  have es : ((lb x : Nat) : Int) - (lb y : Nat) = (s : Nat) := by omega
  rw [es]
  conv => whnf
  refine ⟨by omega, ⟨by rw [q1]; omega, by rw [q1]; omega⟩, ?_⟩
  conv => whnf
  refine ⟨⟨by rw [q1]; omega, by rw [q1]; omega⟩, ?_⟩
  conv => whnf
  refine ⟨by rw [q1]; omega, Int.le_refl _, by rw [q1]; omega, by show (4 : Int) * (Int.tdiv (s : Int) 32 + 1) ≤ 281474976710656; rw [q1]; omega, ?_⟩
  conv => whnf
  refine loop_ints (fun k : Nat => gst [(1, .c (dsC (digs y))), (6, .c (dsC (digs (R k)))), (8, .c (.gs 0 0)), (9, .c (.int .i64 ((k : Int) - 1)))] [gd m (dg (V k))]) (fun k => k) (fun k => k ≤ s + 1) (s + 1) rfl ?_ (Nat.le_refl _) fun k hk => ?_
  · refine Weak.gen [some 0] rfl ⟨⟨_, rfl, rfl, rfl, ?_, rfl, fun a b ha hb => ⟨_, ?_, rfl⟩⟩, trivial⟩ ⟨.inl ⟨_, _, rfl, rfl, fun _ _ _ _ => rfl⟩, .inl ⟨_, _, rfl, congrArg (fun z => (digs z).length) Rs.symm, fun i _ _ _ => by show Cell.int .u32 (ld (digs x) i : Nat) = .int .u32 (ld (digs (R (s + 1))) i : Nat); rw [Rs]⟩, ⟨_, rfl, rfl, rfl⟩, ⟨_, rfl, by omega⟩, trivial⟩
    · show Int.toNat (Int.tdiv (s : Int) 32 + 1) = m
      rw [q1]; omega
    · obtain rfl := Nat.lt_one_iff.1 hb
      show Cell.int .u32 0 = .int .u32 (dg (V (s + 1)) a : Nat)
      rw [Vs]
      unfold dg
      simp
  have eJ : ∀ j : Nat, (((j + 1 : Nat) : Int) - 1) = (j : Nat) := fun j => by omega
  have sh := sh (k - 1)
  have bl := bl (k - 1)
  have mi := mi (k - 1)
  have tr := tr (k - 1)
  have ab := ab (k - 1)
  have lo := lo (k - 1)
  have hi := hi (k - 1)
  conv => whnf
  refine bcase (fun (h3 : decide ((0 : Int) ≤ (k : Int) - 1) = true) => ?_) fun (h3 : decide ((0 : Int) ≤ (k : Int) - 1) = false) => ?_
  · have h3' := of_decide_eq_true h3
    obtain ⟨j, rfl⟩ : ∃ j, k = j + 1 := ⟨k - 1, by omega⟩
    have eJ := eJ j
    rw [Nat.add_sub_cancel] at sh bl mi tr ab lo hi
    have sh := sh (by omega)
    rw [Nat.mul_comm] at sh
    have ab := ab (by omega)
    rw [← eJ] at sh
    have d1 : Int.tdiv (((j + 1 : Nat) : Int) - 1) 32 = (j / 32 : Nat) := by rw [eJ, Int.tdiv_eq_ediv_of_nonneg (by omega)]; omega
    have d2 : Int.tmod (((j + 1 : Nat) : Int) - 1) 32 = (j % 32 : Nat) := by rw [eJ, Int.tmod_eq_emod_of_nonneg (by omega)]; omega
    have d3 : Int.toNat (Int.tdiv (((j + 1 : Nat) : Int) - 1) 32) = j / 32 := by rw [d1]; omega
    have e0 : IntKind.u64.wrap (Int.tmod (((j + 1 : Nat) : Int) - 1) 32) = (j % 32 : Nat) := by rw [d2]; exact w64 (by omega) (by omega)
    conv => whnf
    refine ⟨_, sh, ?_⟩
    conv => whnf
    refine ⟨_, bl, ?_⟩
    conv => whnf
    refine bcase (fun (h4 : (!decide (R (j + 1) < 2 ^ j * y)) = true) => ?_) fun (h4 : (!decide (R (j + 1) < 2 ^ j * y)) = false) => ?_
    · have h4' : ¬ R (j + 1) < 2 ^ j * y := by simpa using h4
      obtain ⟨g1, g2⟩ := hi h4'
      obtain ⟨g3, g4⟩ := ab
      have mi := mi (by omega)
      conv => whnf
      refine ⟨_, mi, ?_⟩
      conv => whnf
      refine ⟨_, tr, ?_⟩
      conv => whnf
      refine ⟨by omega, ⟨by rw [d1]; omega, by rw [d1]; omega⟩, ?_⟩
      conv => whnf
      refine ⟨by omega, ⟨by rw [d1]; omega, by rw [d1]; omega⟩, ?_⟩
      conv => whnf
      refine ⟨by rw [d1]; omega, by show Int.tdiv (((j + 1 : Nat) : Int) - 1) 32 < (m : Nat); rw [d1]; omega, ?_⟩
      conv => whnf
      refine ⟨by omega, ?_⟩
      conv => whnf
      refine ⟨by rw [e0]; omega, ?_⟩
      conv => whnf
      refine ⟨by rw [d1]; omega, by show Int.tdiv (((j + 1 : Nat) : Int) - 1) 32 < (m : Nat); rw [d1]; omega, ?_⟩
      conv => whnf
      refine ⟨i64 (by omega) (by omega), ?_⟩
      conv => whnf
      refine ⟨j, by omega, ?_, by omega⟩
      refine Weak.gen [some 0] rfl ⟨⟨_, rfl, rfl, rfl, rfl, rfl, fun a b ha hb => ⟨_, updN hb ?_, rfl⟩⟩, trivial⟩ ⟨.inl ⟨_, _, rfl, rfl, fun _ _ _ _ => rfl⟩, .inl ⟨_, _, rfl, congrArg (fun z => (digs z).length) g2.symm, fun i _ _ _ => by show Cell.int .u32 (ld (digs (R (j + 1) - 2 ^ j * y)) i : Nat) = .int .u32 (ld (digs (R j)) i : Nat); rw [g2]⟩, ⟨_, rfl, rfl, rfl⟩, ⟨_, rfl, by omega⟩, trivial⟩
      show (if a = Int.toNat (Int.tdiv (((j + 1 : Nat) : Int) - 1) 32) then IntKind.u32.wrap ((dg (V (j + 1)) (Int.toNat (Int.tdiv (((j + 1 : Nat) : Int) - 1) 32)) : Int) + IntKind.u32.wrap (1 * 2 ^ min (Int.toNat (IntKind.u64.wrap (Int.tmod (((j + 1 : Nat) : Int) - 1) 32))) 32)) else (dg (V (j + 1)) a : Nat)) = (dg (V j) a : Nat)
      exact put_bit d3 e0 (by omega) g3 (by rw [g1]; exact g4 a ha)
    · have h4' : R (j + 1) < 2 ^ j * y := by simpa using h4
      obtain ⟨g1, g2⟩ := lo h4'
      conv => whnf
      refine ⟨i64 (by omega) (by omega), ?_⟩
      conv => whnf
      refine ⟨j, by omega, ?_, by omega⟩
      exact Weak.gen [some 0] rfl ⟨⟨_, rfl, rfl, rfl, rfl, rfl, fun a b ha hb => ⟨_, rfl, by rw [g1]⟩⟩, trivial⟩ ⟨.inl ⟨_, _, rfl, rfl, fun _ _ _ _ => rfl⟩, .inl ⟨_, _, rfl, congrArg (fun z => (digs z).length) g2.symm, fun i _ _ _ => by show Cell.int .u32 (ld (digs (R (j + 1))) i : Nat) = .int .u32 (ld (digs (R j)) i : Nat); rw [g2]⟩, ⟨_, rfl, rfl, rfl⟩, ⟨_, rfl, by omega⟩, trivial⟩
  · have h3' := of_decide_eq_false h3
    obtain rfl : k = 0 := by omega
    conv => whnf
    refine ⟨fun _ _ _ _ => rfl, ?_⟩
    conv => whnf
    exact ⟨rfl, Sub.refl _⟩
end Rf
end Go.Proofs.YtigciplaoikcfaaGreat
/- The document's quotient and remainder, and the greatest common divisor. -/
namespace Go.Proofs.YtigciplaoikcfaaGreat
open Go.RowKit
namespace Rf
theorem sgn_div {p q : Bool} {a b : Nat} (hb : 0 < b) (h : p = false ∨ a % b = 0) : sgn p a / sgn q b = sgn (!(p == q)) (a / b) ∧ sgn p a % sgn q b = (a % b : Nat) := by
  have hd := Nat.div_add_mod a b
  have hm := Nat.mod_lt a hb
  have key : ∀ x y r k : Int, y ≠ 0 → 0 ≤ r → r < y.natAbs → r + y * k = x → x / y = k ∧ x % y = r := by
    intro x y r k hy h0 h1 h2
    subst h2
    refine ⟨?_, ?_⟩
    · rw [Int.add_mul_ediv_left _ _ hy]
      have : r / y = 0 := by
        rcases Int.natAbs_eq y with e | e
        · rw [e]; exact Int.ediv_eq_zero_of_lt h0 (by omega)
        · rw [e, Int.ediv_neg, Int.ediv_eq_zero_of_lt h0 (by omega)]; rfl
      omega
    · rw [Int.add_mul_emod_self_left]
      rcases Int.natAbs_eq y with e | e
      · rw [e]; exact Int.emod_eq_of_lt h0 (by omega)
      · rw [e, Int.emod_neg]; exact Int.emod_eq_of_lt h0 (by omega)
  generalize a / b = k at *
  generalize a % b = m at *
  have hi : (b : Int) * k + m = a := by rw [← Int.natCast_mul, ← Int.natCast_add, hd]
  generalize ht : (b : Int) * k = t at *
  apply key
  · cases q <;> simp [sgn] <;> omega
  · omega
  · cases q <;> simp [sgn] <;> omega
  · rcases h with rfl | h
    · cases q <;> simp [sgn, Int.mul_neg, Int.neg_mul, ht] <;> omega
    · rw [h] at hi ⊢
      cases p <;> cases q <;> simp [sgn, Int.mul_neg, Int.neg_mul, ht] at hi ⊢ <;> omega
/-- A negative number with a remainder: one more, and what is missing. -/
theorem sgn_div_up {q : Bool} {a b : Nat} (hb : 0 < b) (h : 0 < a % b) : sgn true a / sgn q b = sgn (!(true == q)) (a / b + 1) ∧ sgn true a % sgn q b = (b - a % b : Nat) := by
  have hd := Nat.div_add_mod a b
  have hm := Nat.mod_lt a hb
  have e : ∃ c : Nat, c + a = b * (a / b + 1) ∧ c = b - a % b ∧ c < b := ⟨b - a % b, by rw [Nat.mul_add]; omega, rfl, by omega⟩
  obtain ⟨c, hc, hc2, hc3⟩ := e
  rw [← hc2]
  generalize a / b + 1 = k at *
  have hi : (c : Int) + a = (b : Int) * k := by rw [← Int.natCast_mul, ← Int.natCast_add, hc]
  generalize ht : (b : Int) * k = t at *
  have hy : sgn q b ≠ 0 := by cases q <;> simp [sgn] <;> omega
  have hx : sgn true a = c + sgn q b * sgn (!(true == q)) k := by
    cases q <;> simp [sgn, Int.mul_neg, Int.neg_mul, ht] <;> omega
  have ha : (c : Int) < (sgn q b).natAbs := by cases q <;> simp [sgn] <;> omega
  rw [hx]
  refine ⟨?_, ?_⟩
  · rw [Int.add_mul_ediv_left _ _ hy]
    have : (c : Int) / sgn q b = 0 := by
      rcases Int.natAbs_eq (sgn q b) with e | e
      · rw [e]; exact Int.ediv_eq_zero_of_lt (by omega) (by omega)
      · rw [e, Int.ediv_neg, Int.ediv_eq_zero_of_lt (by omega) (by omega)]; rfl
    omega
  · rw [Int.add_mul_emod_self_left]
    rcases Int.natAbs_eq (sgn q b) with e | e
    · rw [e]; exact Int.emod_eq_of_lt (by omega) (by omega)
    · rw [e, Int.emod_neg]; exact Int.emod_eq_of_lt (by omega) (by omega)
theorem divided_ok {x y : Nat} (hy : 0 < y) (hx : (digs x).length ≤ 524287) (hy2 : (digs y).length ≤ 524287) : DivOK x y := by
  by_cases c : (digs x).length ≤ 2 ∧ (digs y).length ≤ 2
  · exact divided_two hy c.1 c.2
  · exact divided_many hy hx hy2 c
theorem sgd_ok {n : Nat} (s : Bool) (h : (digs n).length ≤ 1048576) : FnOK Tryz.prog false 108 [.c (.bool s), .c (dsC (digs n))] (.g (nz (sgn s n))) := by
  have := rsigned_ok (s := s) (ld_ok (digs_ok n) (digs n).length) h
  rwa [nv_digs] at this
theorem sgn_self (x : Int) : sgn (decide (x < 0)) x.natAbs = x := by
  unfold sgn
  by_cases c : x < 0
  · rw [if_pos (by simpa using c)]; omega
  · rw [if_neg (by simpa using c)]; omega
end Rf
end Go.Proofs.YtigciplaoikcfaaGreat
/- The document's division of integers. -/
namespace Go.Proofs.YtigciplaoikcfaaGreat
open Go.RowKit
namespace Rf
theorem pow_step (m : Nat) : BB ^ m + 1 ≤ BB ^ (max m 1 + 1) := by
  have h1 := Nat.pow_le_pow_right (n := BB) (by decide) (show m ≤ max m 1 by omega)
  have h2 := BB_pos (max m 1)
  rw [Nat.pow_succ]
  have h3 : BB ^ max m 1 * 2 ≤ BB ^ max m 1 * BB := Nat.mul_le_mul_left _ (by decide)
  omega
set_option maxHeartbeats 4000000 in
theorem euclid_ok {a b : RawZ} (ha : wr a) (hb : wr b) (h1 : zlen a.val ≤ 524286) (h2 : zlen b.val ≤ 524286) (h0 : b.val ≠ 0) : FnOK Tryz.prog false 105 [.g (zr a), .g (zr b)] (.t2 (.g (nz (a.val / b.val))) (.g (nz (a.val % b.val)))) := by
  have hA := znorm_ok ha
  have hB := znorm_ok hb
  generalize a.val = x at *
  generalize b.val = y at *
  have h1 : (digs x.natAbs).length ≤ 524286 := h1
  have h2 : (digs y.natAbs).length ≤ 524286 := h2
  obtain ⟨m, m1, m2, hD⟩ := divided_ok (x := x.natAbs) (y := y.natAbs) (by omega) (by omega) (by omega)
  have hlr : (digs (x.natAbs % y.natAbs)).length ≤ 524286 := Nat.le_trans (digs_le (Nat.le_of_lt (Nat.mod_lt _ (by omega)))) h2
  have hR := sgd_ok (n := x.natAbs % y.natAbs) false (by omega)
  obtain ⟨T, hT⟩ : ∃ T : Int, T = (x.natAbs % y.natAbs : Nat) := ⟨_, rfl⟩
  rw [show sgn false (x.natAbs % y.natAbs) = T from hT.symm] at hR
  have hTn : T.natAbs = x.natAbs % y.natAbs := by omega
  have hT0 : 0 < (digs T.natAbs).length ↔ 0 < x.natAbs % y.natAbs := by
    rw [hTn]
    have := @digs_zero (x.natAbs % y.natAbs)
    omega
  have z1 : zlen T ≤ 1048575 := by show (digs T.natAbs).length ≤ _; rw [hTn]; omega
  have hY := zabs_ok (a := ofZ y) (wr_nz (show (digs y.natAbs).length ≤ _ by omega))
  rw [ofZ_val] at hY
  obtain ⟨U, hU⟩ : ∃ U : Int, U = (y.natAbs : Nat) := ⟨_, rfl⟩
  rw [← hU] at hY
  have z2 : zlen U ≤ 1048575 := by show (digs U.natAbs).length ≤ _; rw [show U.natAbs = y.natAbs by omega]; omega
  have hS := zsub_ok (a := ofZ U) (b := ofZ T) (wr_nz (by omega)) (wr_nz (by omega)) (by rw [ofZ_val]; omega) (by rw [ofZ_val]; omega)
  rw [ofZ_val, ofZ_val] at hS
  have hdm := dg_ok (x.natAbs / y.natAbs) m
  have e1 : x = sgn (decide (x < 0)) x.natAbs := (sgn_self x).symm
  have e2 : y = sgn (decide (y < 0)) y.natAbs := (sgn_self y).symm
  have kd : decide (x < 0) = false ∨ x.natAbs % y.natAbs = 0 → sgn (!(decide (x < 0) == decide (y < 0))) (x.natAbs / y.natAbs) = x / y ∧ T = x % y := fun h => by
    have := sgn_div (p := decide (x < 0)) (q := decide (y < 0)) (a := x.natAbs) (b := y.natAbs) (by omega) h
    rw [← e1, ← e2] at this
    exact ⟨this.1.symm, by rw [hT, this.2]⟩
  have ku : x < 0 → 0 < x.natAbs % y.natAbs → sgn (!(decide (y < 0))) (x.natAbs / y.natAbs + 1) = x / y ∧ U - T = x % y := fun h h' => by
    have := sgn_div_up (q := decide (y < 0)) (a := x.natAbs) (b := y.natAbs) (by omega) h'
    rw [show sgn true x.natAbs = x by rw [← show decide (x < 0) = true from decide_eq_true h]; exact e1.symm, ← e2] at this
    refine ⟨by rw [this.1]; simp, ?_⟩
    rw [this.2]
    have := Nat.mod_lt x.natAbs (show 0 < y.natAbs by omega)
    omega
  have hP := plus_ok (a := dg (x.natAbs / y.natAbs)) (b := fun i => if i = 0 then 1 else 0) hdm (fun i hi => by show (if i = 0 then 1 else 0) < BB; split <;> decide) (n := m) (m := 1) (by omega) (by omega)
  rw [dg_full m1, show nv (fun i => if i = 0 then 1 else 0) 1 = 1 from rfl] at hP
  have hP := arg_ok (args' := [.c (dn m (dg (x.natAbs / y.natAbs))), .c (.row 1 1 (rowF 1 [.int .u32 1]))]) hP fun D w vs h => by
    match vs, h with
    | [v0, v1], ⟨h0, h1, _⟩ =>
      refine ⟨h0, subRowG rfl (fun i j hi hj => ?_) D w v1 h1, trivial⟩
      match i, j, hi, hj with
      | 0, 0, _, _ => rfl
  have hPs := sg_ok (x := x.natAbs / y.natAbs + 1) (q := max m 1 + 1) (!(decide (y < 0))) (Nat.lt_of_lt_of_le (show x.natAbs / y.natAbs + 1 < BB ^ m + 1 from Nat.succ_lt_succ m1) (pow_step m)) (by omega)
  have hQ := fun s => sg_ok (x := x.natAbs / y.natAbs) s m1 (by omega)
  have hU1 : x < 0 → 0 < (digs T.natAbs).length → FnOK Tryz.prog false 108 [.c (.bool (!(decide (y < 0)))), .c (dn (max m 1 + 1) (dg (x.natAbs / y.natAbs + 1)))] (.g (nz (x / y))) := fun a b => by
    have := hPs
    rw [(ku a (hT0.1 b)).1] at this
    exact this
  have hU2 : x < 0 → 0 < (digs T.natAbs).length → FnOK Tryz.prog false 141 [.g (nz U), .g (nz T)] (.g (nz (x % y))) := fun a b => by
    have := hS
    rw [(ku a (hT0.1 b)).2] at this
    exact this
  have hE : ¬ x < 0 ∨ ¬ 0 < (digs T.natAbs).length → FnOK Tryz.prog false 108 [.c (.bool (!(decide (x < 0) == decide (y < 0)))), .c (dn m (dg (x.natAbs / y.natAbs)))] (.g (nz (x / y))) ∧ T = x % y := fun a => by
    have h := kd (a.imp decide_eq_false fun b => by
      have := hT0
      omega)
    have g := hQ (!(decide (x < 0) == decide (y < 0)))
    rw [h.1] at g
    exact ⟨g, h.2⟩
  have hE1 := fun a => (hE a).1
  have hE2 : ¬ x < 0 ∨ ¬ 0 < (digs T.natAbs).length → Sub (.t2 (.g (nz (x / y))) (.g (nz T))) (.t2 (.g (nz (x / y))) (.g (nz (x % y)))) := fun a => by
    rw [(hE a).2]
    exact Sub.refl _
  clear hPs hS hE hQ kd ku
  refine fn_ok (E := E0) E0_ok Tryz.func105 rfl mixed (by kernel_rfl) (by kernel_rfl) ?_
  conv => whnf
  refine ⟨_, hA, ?_⟩
  conv => whnf
  refine ⟨_, hB, ?_⟩
  conv => whnf
  refine ⟨_, hD, ?_⟩
  conv => whnf
  refine ⟨_, hR, ?_⟩
  conv => whnf
  refine bcase (fun (h : gw true (decide (x < 0)) = true) => ?_) fun (h : gw true (decide (x < 0)) = false) => ?_
  · have h : x < 0 := of_decide_eq_true (gw_true.1 h)
    conv => whnf
    refine bcase (fun (h' : decide ((0 : Int) < ((digs T.natAbs).length : Nat)) = true) => ?_) fun (h' : decide ((0 : Int) < ((digs T.natAbs).length : Nat)) = false) => ?_
    · have h' : 0 < (digs T.natAbs).length := by have := of_decide_eq_true h'; omega
      have g1 := hU1 h h'
      have g2 := hU2 h h'
      conv => whnf
      refine .inr ⟨rfl, ?_⟩
      conv => whnf
      refine ⟨_, hP, ?_⟩
      conv => whnf
      refine ⟨_, g1, ?_⟩
      conv => whnf
      refine ⟨_, hY, ?_⟩
      conv => whnf
      refine ⟨_, g2, ?_⟩
      conv => whnf
      exact ⟨rfl, Sub.refl _⟩
    · have h' : ¬ 0 < (digs T.natAbs).length := by have := of_decide_eq_false h'; omega
      have g1 := hE1 (.inr h')
      have g2 := hE2 (.inr h')
      conv => whnf
      refine ⟨_, g1, ?_⟩
      conv => whnf
      exact ⟨rfl, g2⟩
  · have h : ¬ x < 0 := of_decide_eq_false (gw_false.1 h)
    have g1 := hE1 (.inl h)
    have g2 := hE2 (.inl h)
    conv => whnf
    refine ⟨_, g1, ?_⟩
    conv => whnf
    exact ⟨rfl, g2⟩
end Rf
end Go.Proofs.YtigciplaoikcfaaGreat
/- The document's greatest common divisor. -/
namespace Go.Proofs.YtigciplaoikcfaaGreat
open Go.RowKit
namespace Rf
/-- A box that was written. -/
theorem boxU {q k t sz u : Nat} {bl : List Blk} {ks : List (Option Nat)} {l : List Cell} {f : Nat → Nat → Cell} (h : bl[k]? = some ⟨t, sz, 1, u, 0, updF f 0 0 l⟩) (hs : sz = l.length) (hc : l.all Cell.clos = true) : srcG q bl ks ⟨t, sz, 1, boxF l⟩ (some k) :=
  ⟨_, h, rfl, rfl, rfl, rfl, fun i j hi hj => regE (by
    have hi : i < 1 := hi
    have hj : j < sz := hj
    show updF f 0 0 l i j = boxF l i j
    unfold updF boxF
    rw [if_pos ⟨by omega, by omega, by omega⟩, Nat.sub_zero]) (box_clos (i := i) (j := j) hc)⟩
def zb : Gx := ⟨61, 2, 1, boxF [.bool false, .nil]⟩
def zbx (n : Nat) : Gx := ⟨61, 2, 1, boxF (nz (n : Int))⟩
set_option maxHeartbeats 4000000 in
theorem gcd_small {a b : RawZ} (ha : wr a) (hb : wr b) (h1 : zlen a.val ≤ 2) (h2 : zlen b.val ≤ 2) : FnOK Tryz.prog false 124 [.g (zr a), .g (zr b)] (.g (nz (Nat.gcd a.val.natAbs b.val.natAbs : Nat))) := by
  have hA := zabs_ok ha
  have hB := zabs_ok hb
  have h1 : (digs a.val.natAbs).length ≤ 2 := h1
  have h2 : (digs b.val.natAbs).length ≤ 2 := h2
  generalize a.val.natAbs = x at *
  generalize b.val.natAbs = y at *
  have wx := word_ok (ld_ok (digs_ok x) (digs x).length) h1
  have wy := word_ok (ld_ok (digs_ok y) (digs y).length) h2
  rw [nv_digs] at wx wy
  have lx : x < 18446744073709551616 := Nat.lt_of_lt_of_le (lt_digs x) (show BB ^ (digs x).length ≤ BB ^ 2 from Nat.pow_le_pow_right (by decide) h1)
  have ly : y < 18446744073709551616 := Nat.lt_of_lt_of_le (lt_digs y) (show BB ^ (digs y).length ≤ BB ^ 2 from Nat.pow_le_pow_right (by decide) h2)
  refine fn_ok (E := E0) E0_ok Tryz.func124 rfl mixed (by kernel_rfl) (by kernel_rfl) ?_
  conv => whnf
  refine ⟨_, hA, ?_⟩
  conv => whnf
  refine ⟨_, hB, ?_⟩
  conv => whnf
  refine bpos (gw_true.2 (show decide (((digs x).length : Int) ≤ 2) = true from decide_eq_true (by omega))) ?_
  conv => whnf
  refine bpos (show decide (((digs y).length : Int) ≤ 2) = true from decide_eq_true (by omega)) ?_
  conv => whnf
  refine ⟨_, wx, ?_⟩
  conv => whnf
  refine ⟨_, wy, ?_⟩
  conv => whnf
  refine loop_ints (fun p : Nat × Nat => gst [(4, .c (.p 0 0 2 0 0)), (7, .c (.int .u64 (p.1 : Nat))), (8, .c (.int .u64 (p.2 : Nat)))] [zb]) (fun p => p.2) (fun p => Nat.gcd p.1 p.2 = Nat.gcd x y ∧ p.1 < 18446744073709551616 ∧ p.2 < 18446744073709551616) (x, y) rfl ?_ ⟨rfl, lx, ly⟩ ?_
  · exact Weak.gen [some 2] rfl ⟨boxK rfl rfl, trivial⟩ ⟨⟨_, rfl, rfl, rfl⟩, ⟨_, rfl, rfl⟩, ⟨_, rfl, rfl⟩, trivial⟩
  rintro ⟨m, n⟩ ⟨hg, hm, hn⟩
  have hg : Nat.gcd m n = Nat.gcd x y := hg
  have hm : m < 18446744073709551616 := hm
  have hn : n < 18446744073709551616 := hn
  have s1 := split_ok (x := m) hm
  have s2 := sgd_ok (n := m) false (Nat.le_trans (show (digs m).length ≤ 2 from digs_lt (show m < BB ^ 2 from hm)) (by decide))
  have q1 : Int.tmod (m : Int) (n : Int) = (m % n : Nat) := by rw [Int.tmod_eq_emod_of_nonneg (by omega)]; rfl
  conv => whnf
  refine bcase (fun (h : decide ((0 : Int) < (n : Nat)) = true) => ?_) fun (h : decide ((0 : Int) < (n : Nat)) = false) => ?_
  · have h := of_decide_eq_true h
    conv => whnf
    refine ⟨by omega, ?_⟩
    conv => whnf
    exact ⟨(n, m % n), Nat.mod_lt _ (by omega), Weak.gen [some 0] rfl ⟨boxK rfl rfl, trivial⟩ ⟨⟨_, rfl, rfl, rfl⟩, ⟨_, rfl, rfl⟩, ⟨_, rfl, q1⟩, trivial⟩, by rw [← hg, Nat.gcd_comm m n, Nat.gcd_rec n m, Nat.gcd_comm], hn, Nat.lt_trans (Nat.mod_lt _ (by omega)) hn⟩
  · have h := of_decide_eq_false h
    obtain rfl : n = 0 := by omega
    have hg : m = Nat.gcd x y := by rw [← hg, Nat.gcd_zero_right]
    rw [← hg]
    conv => whnf
    refine ⟨_, s1, ?_⟩
    conv => whnf
    refine ⟨_, s2, ?_⟩
    conv => whnf
    exact ⟨rfl, Sub.refl _⟩
set_option maxHeartbeats 4000000 in
theorem gcd_large {a b : RawZ} (ha : wr a) (hb : wr b) (h1 : zlen a.val ≤ 524286) (h2 : zlen b.val ≤ 524286) (h3 : ¬ (zlen a.val ≤ 2 ∧ zlen b.val ≤ 2)) : FnOK Tryz.prog false 124 [.g (zr a), .g (zr b)] (.g (nz (Nat.gcd a.val.natAbs b.val.natAbs : Nat))) := by
  have hA := zabs_ok ha
  have hB := zabs_ok hb
  have h1 : (digs a.val.natAbs).length ≤ 524286 := h1
  have h2 : (digs b.val.natAbs).length ≤ 524286 := h2
  have h3 : ¬ ((digs a.val.natAbs).length ≤ 2 ∧ (digs b.val.natAbs).length ≤ 2) := h3
  generalize a.val.natAbs = x at *
  generalize b.val.natAbs = y at *
  have hEu : ∀ m n : Nat, (digs m).length ≤ 524286 → (digs n).length ≤ 524286 → n ≠ 0 → FnOK Tryz.prog false 105 [.g (nz (m : Nat)), .g (nz (n : Nat))] (.t2 (.g (nz ((m / n : Nat) : Int))) (.g (nz ((m % n : Nat) : Int)))) := fun m n hm hn h0 => by
    have := euclid_ok (a := ofZ (m : Nat)) (b := ofZ (n : Nat)) (wr_nz (Nat.le_trans hm (by decide))) (wr_nz (Nat.le_trans hn (by decide))) (by rw [ofZ_val]; exact hm) (by rw [ofZ_val]; exact hn) (by rw [ofZ_val]; omega)
    rw [ofZ_val, ofZ_val] at this
    exact this
  refine fn_ok (E := E0) E0_ok Tryz.func124 rfl mixed (by kernel_rfl) (by kernel_rfl) ?_
  conv => whnf
  refine ⟨_, hA, ?_⟩
  conv => whnf
  refine ⟨_, hB, ?_⟩
  conv => whnf
  refine bcase (fun (h : gw true (decide (((digs x).length : Int) ≤ 2)) = true) => ?_) fun (h : gw true (decide (((digs x).length : Int) ≤ 2)) = false) => ?_
  · have h := of_decide_eq_true (gw_true.1 h)
    conv => whnf
    refine bneg (show decide (((digs y).length : Int) ≤ 2) = false from decide_eq_false (by omega)) ?_
    conv => whnf
    refine loop_ints (fun p : Nat × Nat => gst [(4, .c (.p 0 0 2 0 0)), (5, .c (.p 1 0 2 0 0)), (6, .c (.p 2 0 2 0 0))] [zb, zbx p.1, zbx p.2]) (fun p => p.2) (fun p => Nat.gcd p.1 p.2 = Nat.gcd x y ∧ (digs p.1).length ≤ 524286 ∧ (digs p.2).length ≤ 524286) (x, y) rfl ?_ ⟨rfl, h1, h2⟩ ?_
    · exact Weak.gen [some 2, some 7, some 8] rfl ⟨boxK rfl rfl, boxU rfl rfl rfl, boxU rfl rfl rfl, trivial⟩ ⟨⟨_, rfl, rfl, rfl⟩, ⟨_, rfl, rfl, rfl⟩, ⟨_, rfl, rfl, rfl⟩, trivial⟩
    rintro ⟨m, n⟩ ⟨hg, hm, hn⟩
    have hg : Nat.gcd m n = Nat.gcd x y := hg
    have hm : (digs m).length ≤ 524286 := hm
    have hn : (digs n).length ≤ 524286 := hn
    have hE := hEu m n hm hn
    conv => whnf
    refine bcase (fun (h : decide ((0 : Int) < ((digs n).length : Nat)) = true) => ?_) fun (h : decide ((0 : Int) < ((digs n).length : Nat)) = false) => ?_
    · have h : n ≠ 0 := fun e => by
        have h := of_decide_eq_true h
        rw [e] at h
        exact absurd h (by decide)
      have hE := hE h
      conv => whnf
      refine ⟨_, hE, ?_⟩
      conv => whnf
      exact ⟨(n, m % n), Nat.mod_lt _ (by omega), Weak.gen [some 0, some 1, some 2] rfl ⟨boxK rfl rfl, boxU rfl rfl rfl, boxU rfl rfl rfl, trivial⟩ ⟨⟨_, rfl, rfl, rfl⟩, ⟨_, rfl, rfl, rfl⟩, ⟨_, rfl, rfl, rfl⟩, trivial⟩, by rw [← hg, Nat.gcd_comm m n, Nat.gcd_rec n m, Nat.gcd_comm], hn, Nat.le_trans (digs_le (Nat.le_of_lt (Nat.mod_lt _ (by omega)))) hn⟩
    · have h : n = 0 := digs_zero.1 (by have h := of_decide_eq_false h; omega)
      have hg : m = Nat.gcd x y := by rw [← hg, h, Nat.gcd_zero_right]
      have hs : Sub (.g (nz (m : Nat))) (.g (nz (Nat.gcd x y : Nat))) := by rw [← hg]; exact Sub.refl _
      conv => whnf
      exact ⟨rfl, hs⟩
  · have h : ¬ ((digs x).length : Int) ≤ 2 := of_decide_eq_false (gw_false.1 h)
    conv => whnf
    refine loop_ints (fun p : Nat × Nat => gst [(4, .c (.p 0 0 2 0 0)), (5, .c (.p 1 0 2 0 0)), (6, .c (.p 2 0 2 0 0))] [zb, zbx p.1, zbx p.2]) (fun p => p.2) (fun p => Nat.gcd p.1 p.2 = Nat.gcd x y ∧ (digs p.1).length ≤ 524286 ∧ (digs p.2).length ≤ 524286) (x, y) rfl ?_ ⟨rfl, h1, h2⟩ ?_
    · exact Weak.gen [some 2, some 7, some 8] rfl ⟨boxK rfl rfl, boxU rfl rfl rfl, boxU rfl rfl rfl, trivial⟩ ⟨⟨_, rfl, rfl, rfl⟩, ⟨_, rfl, rfl, rfl⟩, ⟨_, rfl, rfl, rfl⟩, trivial⟩
    rintro ⟨m, n⟩ ⟨hg, hm, hn⟩
    have hg : Nat.gcd m n = Nat.gcd x y := hg
    have hm : (digs m).length ≤ 524286 := hm
    have hn : (digs n).length ≤ 524286 := hn
    have hE := hEu m n hm hn
    conv => whnf
    refine bcase (fun (h : decide ((0 : Int) < ((digs n).length : Nat)) = true) => ?_) fun (h : decide ((0 : Int) < ((digs n).length : Nat)) = false) => ?_
    · have h : n ≠ 0 := fun e => by
        have h := of_decide_eq_true h
        rw [e] at h
        exact absurd h (by decide)
      have hE := hE h
      conv => whnf
      refine ⟨_, hE, ?_⟩
      conv => whnf
      exact ⟨(n, m % n), Nat.mod_lt _ (by omega), Weak.gen [some 0, some 1, some 2] rfl ⟨boxK rfl rfl, boxU rfl rfl rfl, boxU rfl rfl rfl, trivial⟩ ⟨⟨_, rfl, rfl, rfl⟩, ⟨_, rfl, rfl, rfl⟩, ⟨_, rfl, rfl, rfl⟩, trivial⟩, by rw [← hg, Nat.gcd_comm m n, Nat.gcd_rec n m, Nat.gcd_comm], hn, Nat.le_trans (digs_le (Nat.le_of_lt (Nat.mod_lt _ (by omega)))) hn⟩
    · have h : n = 0 := digs_zero.1 (by have h := of_decide_eq_false h; omega)
      have hg : m = Nat.gcd x y := by rw [← hg, h, Nat.gcd_zero_right]
      have hs : Sub (.g (nz (m : Nat))) (.g (nz (Nat.gcd x y : Nat))) := by rw [← hg]; exact Sub.refl _
      conv => whnf
      exact ⟨rfl, hs⟩
theorem gcd_ok {a b : RawZ} (ha : wr a) (hb : wr b) (h1 : zlen a.val ≤ 524286) (h2 : zlen b.val ≤ 524286) : FnOK Tryz.prog false 124 [.g (zr a), .g (zr b)] (.g (nz (Nat.gcd a.val.natAbs b.val.natAbs : Nat))) := by
  by_cases c : zlen a.val ≤ 2 ∧ zlen b.val ≤ 2
  · exact gcd_small ha hb c.1 c.2
  · exact gcd_large ha hb h1 h2 c
end Rf
end Go.Proofs.YtigciplaoikcfaaGreat
