/- A well-formed number field opened; normal forms, sums and products of its elements. -/
import Derived.Test.YtnoecgnhepppkaaGreatQlD
import Derived.Test.YtnoecgnhepppkaaGreatQr
namespace Go.Proofs.YtnoecgnhepppkaaGreat
open Go.RowKit
namespace Rf
abbrev ringL (d : Nat) (f : Nat → Rat) : List Cell := [nql (d + 1) f, .int .i64 (((d + 1 : Nat) : Int) - 1)]
set_option maxHeartbeats 4000000 in
theorem open_good {n d : Nat} {c : Nat → RawZ} {f : Nat → Rat} (hfv : (fun i => ((vz c i : Int) : Rat)) = f) (h : wl n c) (hd : tl (vz c) n = d + 1) (h1 : 1 ≤ d) (h2 : d ≤ 12) (h3 : vz c d = 1) : FnOK Tryz.prog true 50 [.g [zl n c]] (.t2 (.c (.xp 2 fun j => boxF (ringL d f) 0 (0 + j))) (.c (.int .i64 0))) := by
  have n1 := znormal_ok h
  have hw : wl (tl (vz c) n) fun i => ofZ (vz c i) := ⟨Nat.le_trans (tl_le _ _) h.1, fun i hi => wr_nz (Nat.le_trans (wr_len (h.2 i (Nat.lt_of_lt_of_le hi (tl_le _ _)))) (h.2 i (Nat.lt_of_lt_of_le hi (tl_le _ _))).2)⟩
  have e1 : vz (fun i => ofZ (vz c i)) = vz c := funext fun i => ofZ_val _
  have n2 := qpof_eq (v := f) (by rw [← hfv, e1]) hw
  rw [e1, tl_tl, hd] at n2
  rw [hd] at n1
  have n3 := qof_ok (n := 1) (by decide) (by decide)
  have n4 : FnOK Tryz.prog true 108 [.g (nq (f (((d + 1 : Nat) : Int) - 1).toNat)), .g (nq ((1 : Int) : Rat))] (.c (.int .i64 0)) := by
    have := qcmp_one (x := 1) (by decide)
    rw [show (((d + 1 : Nat) : Int) - 1).toNat = d by omega, ← hfv]
    show FnOK _ _ _ [.g (nq ((vz c d : Int) : Rat)), _] _
    rw [h3]
    exact this
  clear hfv h hd hw e1 h3
  generalize vz c = v at *
  refine fn_ok (E := E1) E1_ok Tryz.func50 rfl mixed (by kernel_rfl) (by kernel_rfl) ?_
  conv => whnf
  refine ⟨_, n1, ?_⟩
  conv => whnf
  refine ⟨_, n2, ?_⟩
  conv => whnf
  refine ⟨i64 (by omega) (by omega), ?_⟩
  conv => whnf
  refine bpos (gw_true.2 (show decide (((d + 1 : Nat) : Int) - 1 < 1) = false from decide_eq_false (by omega))) ?_
  conv => whnf
  refine bpos (gw_true.2 (show decide ((12 : Int) < ((d + 1 : Nat) : Int) - 1) = false from decide_eq_false (by omega))) ?_
  conv => whnf
  refine ⟨by omega, by omega, ?_⟩
  conv => whnf
  refine ⟨_, n3, ?_⟩
  conv => whnf
  refine ⟨_, n4, ?_⟩
  conv => whnf
  refine ⟨fun i j _ _ => box_clos (l := ringL d f) (i := i) (j := j) rfl, ?_⟩
  conv => whnf
  exact ⟨rfl, Sub.refl _⟩
abbrev ringP (d : Nat) (f : Nat → Rat) : V := .c (.xp 2 fun j => boxF (ringL d f) 0 (0 + j))
set_option maxHeartbeats 4000000 in
theorem rnormal_raw {n d : Nat} {q : Nat → RawR} {p f : Nat → Rat} {L K : Nat} (hp : Q.qx n (fun i => (q i).val) = p) (hf : Q.Mon d f) (hn : n ≤ 4096) (hd : d ≤ 4096) (hq : ∀ i, i < n → (q i).Fit L) (hs : ∀ t k, t ≤ Q.tq p n - d → qlen (Q.dvs d f (Q.tq p n - d) p t k) ≤ K) (hg : ∀ j, qlen (f j) ≤ K) (h1 : 1 ≤ K) (hL : L + 3 ≤ LIM) (hL2 : K + K + K + 16 ≤ LIM) : FnOK Tryz.prog true 94 [ringP d f, .c (ql n q)] (.c (nql (Q.tq (Q.rst d f p (Q.tq p n)) d) (Q.rst d f p (Q.tq p n)))) := by
  obtain ⟨Y, hY, n3⟩ := qpdivmod_ok hp hf hn hd hq hs hg h1 hL hL2
  clear hs hg hq hp hf
  generalize Q.rst d f p (Q.tq p n) = r at *
  generalize Q.tq r d = T at *
  rcases hY with rfl | ⟨N', u, rfl⟩
  all_goals
    refine fn_ok (E := E1) E1_ok Tryz.func94 rfl mixed (by kernel_rfl) (by kernel_rfl) ?_
    conv => whnf
    refine ⟨_, n3, ?_⟩
    conv => whnf
    exact ⟨rfl, Sub.refl _⟩
/-- How long numbers may get, in digits. -/
abbrev KD : Nat := 1048576
theorem kd_lim : KD + KD + KD + KD + 16 ≤ LIM := by decide
/-- A monic polynomial over the integers, its coefficients at most C. -/
structure Fd (d C : Nat) (f : Nat → Rat) : Prop where
  mon : Q.Mon d f
  pos : 1 ≤ d
  low : d ≤ 12
  bd : ∀ j, Bd 1 C (f j)
  small : C < Dg.B ^ KD
theorem bd_fit {D B : Nat} {x : Rat} (h : Bd D B x) (h0 : 0 < D) (hD : D < Dg.B ^ KD) (hB : B < Dg.B ^ KD) : qlen x ≤ KD := h.len h0 hD hB (by decide)
theorem one_lt_kd : 1 < Dg.B ^ KD := Nat.lt_of_lt_of_le (show 1 < Dg.B ^ 1 by decide) (Nat.pow_le_pow_right (by decide) (by decide))
theorem rnormal_ok {n d D B C : Nat} {q : Nat → RawR} {p f : Nat → Rat} (hF : Fd d C f) (hp : Q.qx n (fun i => (q i).val) = p) (hn : n ≤ 64) (hq : ∀ i, i < n → (q i).Fit KD) (h0 : 0 < D) (hD : D < Dg.B ^ KD) (hb : ∀ k, Bd D B (p k)) (hB : B * (1 + C) ^ n < Dg.B ^ KD) : ∃ r, Q.Rm d f p r ∧ (∀ k, Bd D (B * (1 + C) ^ n) (r k)) ∧ FnOK Tryz.prog true 94 [ringP d f, .c (ql n q)] (.c (nql (Q.tq r d) r)) := by
  have fp : Q.Fin n p := by rw [← hp]; exact Q.qx_fin _ _
  have hm := Q.tq_le p n
  have hst : ∀ t k, t ≤ Q.tq p n - d → Bd D (B * (1 + C) ^ n) (Q.dvs d f (Q.tq p n - d) p t k) := fun t k ht => (Q.dvs_bd hb hF.bd t k).mono (Nat.mul_le_mul_left _ (Nat.pow_le_pow_right (by omega) (by omega)))
  have hlow := hF.low
  exact ⟨Q.rst d f p (Q.tq p n), Q.rst_rm hF.mon (Q.tq_fin fp), fun k => hst _ k (Nat.le_refl _), rnormal_raw hp hF.mon (by omega) (by omega) hq (fun t k ht => bd_fit (hst t k ht) h0 hD hB) (fun j => bd_fit (hF.bd j) (by decide) one_lt_kd hF.small) (by decide) (by decide) (by decide)⟩
/-- The same of a list in normal form. -/
theorem rnormal_n {n d D B C : Nat} {p f : Nat → Rat} (hF : Fd d C f) (fp : Q.Fin n p) (hn : n ≤ 64) (h0 : 0 < D) (hD : D < Dg.B ^ KD) (hb : ∀ k, Bd D B (p k)) (hB : B * (1 + C) ^ n < Dg.B ^ KD) : ∃ r, Q.Rm d f p r ∧ (∀ k, Bd D (B * (1 + C) ^ n) (r k)) ∧ FnOK Tryz.prog true 94 [ringP d f, .c (nql n p)] (.c (nql (Q.tq r d) r)) := by
  have hB1 : B < Dg.B ^ KD := Nat.lt_of_le_of_lt (Nat.le_mul_of_pos_right B (Nat.pow_pos (by omega))) hB
  refine rnormal_ok (q := fun i => ofR (p i)) hF ?_ hn (fun i _ => ofR_fit (bd_fit (hb i) h0 hD hB1)) h0 hD hb hB
  rw [show (fun i => (ofR (p i)).val) = p from funext fun i => ofR_val _]
  exact Q.qx_self fp
theorem radd_ok {n m d D BA BB C : Nat} {q p : Nat → RawR} {A B f : Nat → Rat} (hF : Fd d C f) (hA : Q.qx n (fun i => (q i).val) = A) (hB : Q.qx m (fun i => (p i).val) = B) (hn : n ≤ 32) (hm : m ≤ 32) (hq : ∀ i, i < n → (q i).Fit KD) (hp : ∀ i, i < m → (p i).Fit KD) (h0 : 0 < D) (hD : D < Dg.B ^ KD) (bA : ∀ k, Bd D BA (A k)) (bB : ∀ k, Bd D BB (B k)) (hG : (BA + BB) * (1 + C) ^ 64 < Dg.B ^ KD) : ∃ r, Q.Rm d f (fun k => A k + B k) r ∧ (∀ k, Bd D ((BA + BB) * (1 + C) ^ 64) (r k)) ∧ FnOK Tryz.prog true 61 [ringP d f, .c (ql n q), .c (ql m p)] (.c (nql (Q.tq r d) r)) := by
  have h1 := qpAdd_ok (v := fun k => A k + B k) (L := KD) (fun i _ => by rw [hA, hB]) (by omega) (by omega) hq hp (by decide)
  have fA : Q.Fin (max n m) A := by rw [← hA]; exact (Q.qx_fin _ _).mono (Nat.le_max_left _ _)
  have fB : Q.Fin (max n m) B := by rw [← hB]; exact (Q.qx_fin _ _).mono (Nat.le_max_right _ _)
  have hT := Q.tq_fin (fA.add fB)
  have hl := Q.tq_le (fun k => A k + B k) (max n m)
  generalize Q.tq (fun k => A k + B k) (max n m) = T at *
  have hle : (BA + BB) * (1 + C) ^ T ≤ (BA + BB) * (1 + C) ^ 64 := Nat.mul_le_mul_left _ (Nat.pow_le_pow_right (by omega) (by omega))
  obtain ⟨r, r1, r2, r3⟩ := rnormal_n hF hT (by omega) h0 hD (fun k => (bA k).add (bB k)) (Nat.lt_of_le_of_lt hle hG)
  refine ⟨r, r1, fun k => (r2 k).mono hle, ?_⟩
  clear r1 r2 hle hl hT fA fB bA bB hG hq hp hA hB hF
  generalize Q.tq r d = Z at *
  generalize (fun k => A k + B k) = S at *
  refine fn_ok (E := E1) E1_ok Tryz.func61 rfl mixed (by kernel_rfl) (by kernel_rfl) ?_
  conv => whnf
  refine ⟨_, h1, ?_⟩
  conv => whnf
  refine ⟨_, r3, ?_⟩
  conv => whnf
  exact ⟨rfl, Sub.refl _⟩
theorem rmul_ok {n m d D D' BA BB C : Nat} {q p : Nat → RawR} {A B f : Nat → Rat} (hF : Fd d C f) (hA : Q.qx n (fun i => (q i).val) = A) (hB : Q.qx m (fun i => (p i).val) = B) (hn : n ≤ 32) (hm : m ≤ 32) (hq : ∀ i, i < n → (q i).Fit KD) (hp : ∀ i, i < m → (p i).Fit KD) (h0 : 0 < D) (h0' : 0 < D') (hD : D * D' < Dg.B ^ KD) (bA : ∀ k, Bd D BA (A k)) (bB : ∀ k, Bd D' BB (B k)) (hG : (32 * (BA * BB)) * (1 + C) ^ 64 < Dg.B ^ KD) : ∃ r, Q.Rm d f (Q.cf A B) r ∧ (∀ k, Bd (D * D') ((32 * (BA * BB)) * (1 + C) ^ 64) (r k)) ∧ FnOK Tryz.prog true 62 [ringP d f, .c (ql n q), .c (ql m p)] (.c (nql (Q.tq r d) r)) := by
  have hDD : 0 < D * D' := Nat.mul_pos h0 h0'
  have hG1 : 32 * (BA * BB) < Dg.B ^ KD := Nat.lt_of_le_of_lt (Nat.le_mul_of_pos_right _ (Nat.pow_pos (by omega))) hG
  have fA : Q.Fin n A := by rw [← hA]; exact Q.qx_fin _ _
  have fB : Q.Fin m B := by rw [← hB]; exact Q.qx_fin _ _
  have hmu : ∀ i k, i ≤ n → Bd (D * D') (32 * (BA * BB)) (Q.mu A B i k) := fun i k hi => (Q.mu_bd bA bB i k).mono (Nat.mul_le_mul_right _ (by omega))
  have h1 := qpMul_ok (L := KD) (K := KD) hA hB (by omega) (by omega) hq hp (by decide) (fun i k hi => bd_fit (hmu i k hi) hDD hD hG1) (by decide)
  have bC : ∀ k, Bd (D * D') (32 * (BA * BB)) (Q.cf A B k) := fun k => by
    rw [← Q.mu_all fA]
    exact hmu n k (Nat.le_refl _)
  have hfin : Q.Fin (n + m - 1) (Q.cf A B) := by
    intro k hk
    refine Q.su_zero fun i hi => ?_
    rcases Nat.lt_or_ge i n with c | c
    · rw [fB (k - i) (by omega), Rat.mul_zero]
    · rw [fA i c, Rat.zero_mul]
  have hT := Q.tq_fin hfin
  have hl := Q.tq_le (Q.cf A B) (n + m - 1)
  generalize Q.tq (Q.cf A B) (n + m - 1) = T at *
  have hle : (32 * (BA * BB)) * (1 + C) ^ T ≤ (32 * (BA * BB)) * (1 + C) ^ 64 := Nat.mul_le_mul_left _ (Nat.pow_le_pow_right (by omega) (by omega))
  obtain ⟨r, r1, r2, r3⟩ := rnormal_n hF hT (by omega) hDD hD bC (Nat.lt_of_le_of_lt hle hG)
  refine ⟨r, r1, fun k => (r2 k).mono hle, ?_⟩
  clear r1 r2 hle hl hT fA fB bA bB hG hq hp hA hB hF hmu bC hfin
  generalize Q.tq r d = Z at *
  generalize Q.cf A B = S at *
  refine fn_ok (E := E1) E1_ok Tryz.func62 rfl mixed (by kernel_rfl) (by kernel_rfl) ?_
  conv => whnf
  refine ⟨_, h1, ?_⟩
  conv => whnf
  refine ⟨_, r3, ?_⟩
  conv => whnf
  exact ⟨rfl, Sub.refl _⟩
end Rf
end Go.Proofs.YtnoecgnhepppkaaGreat
/- Number fields: the calls of sums and products; coordinates, and the letter. -/
namespace Go.Proofs.YtnoecgnhepppkaaGreat
open Go.RowKit
open Classical in
/-- The rest, as a function. -/
noncomputable def Q.red (d : Nat) (f p : Nat → Rat) : Nat → Rat := if h : ∃ r, Q.Rm d f p r then h.choose else p
theorem Q.red_of {d : Nat} {f p r : Nat → Rat} (hf : Q.Mon d f) (h : Q.Rm d f p r) : r = Q.red d f p := by
  have e : ∃ r, Q.Rm d f p r := ⟨r, h⟩
  have : Q.red d f p = e.choose := dif_pos e
  rw [this]
  exact funext (h.eq hf e.choose_spec)
theorem Q.red_rm {d m : Nat} {f p : Nat → Rat} (hf : Q.Mon d f) (hp : Q.Fin m p) : Q.Rm d f p (Q.red d f p) := by
  have h := Q.dvs_rm hf (N := m) (hp.mono (show m ≤ m + d by omega))
  rw [← Q.red_of hf h]
  exact h
namespace Rf
set_option maxHeartbeats 4000000 in
theorem nAdd_ok {n d N M T : Nat} {c : Nat → RawZ} {f r : Nat → Rat} {q p : Nat → RawR} (ho : FnOK Tryz.prog true 50 [.g [zl n c]] (.t2 (ringP d f) (.c (.int .i64 0)))) (hr : FnOK Tryz.prog true 61 [ringP d f, .c (ql N q), .c (ql M p)] (.c (nql T r))) : FnOK Tryz.prog true 19 [.g [zl n c], .c (ql N q), .c (ql M p)] (.t2 (.c (nql T r)) (.c (.int .i64 0))) := by
  refine fn_ok (E := E1) E1_ok Tryz.func19 rfl mixed (by kernel_rfl) (by kernel_rfl) ?_
  conv => whnf
  refine ⟨_, ho, ?_⟩
  conv => whnf
  refine ⟨_, hr, ?_⟩
  conv => whnf
  exact ⟨rfl, Sub.refl _⟩
set_option maxHeartbeats 4000000 in
theorem nMul_ok {n d N M T : Nat} {c : Nat → RawZ} {f r : Nat → Rat} {q p : Nat → RawR} (ho : FnOK Tryz.prog true 50 [.g [zl n c]] (.t2 (ringP d f) (.c (.int .i64 0)))) (hr : FnOK Tryz.prog true 62 [ringP d f, .c (ql N q), .c (ql M p)] (.c (nql T r))) : FnOK Tryz.prog true 20 [.g [zl n c], .c (ql N q), .c (ql M p)] (.t2 (.c (nql T r)) (.c (.int .i64 0))) := by
  refine fn_ok (E := E1) E1_ok Tryz.func20 rfl mixed (by kernel_rfl) (by kernel_rfl) ?_
  conv => whnf
  refine ⟨_, ho, ?_⟩
  conv => whnf
  refine ⟨_, hr, ?_⟩
  conv => whnf
  exact ⟨rfl, Sub.refl _⟩
theorem qof_one : FnOK Tryz.prog true 109 [.c (.int .i64 1)] (.g (nq 1)) := by
  have h := qof_ok (n := 1) (by decide) (by decide)
  rwa [show ((1 : Int) : Rat) = 1 from rfl] at h
/-- The letter, as a list of two. -/
theorem xp_list : (Q.qx 2 fun i => (ofR (Q.xp 1 i)).val) = Q.xp 1 := by
  rw [show (fun i => (ofR (Q.xp 1 i)).val) = Q.xp 1 from funext fun i => ofR_val _]
  exact Q.qx_self (Q.xp_fin 1)
theorem xp_bd (k : Nat) : Bd 1 1 (Q.xp 1 k) := by
  unfold Q.xp
  split
  · exact Bd.int 1
  · exact Bd.zero _ _
set_option maxHeartbeats 4000000 in
theorem rgen_ok {d C : Nat} {f : Nat → Rat} (hF : Fd d C f) (hC : (1 + C) ^ 2 < Dg.B ^ KD) : (∀ k, Bd 1 ((1 + C) ^ 2) (Q.red d f (Q.xp 1) k)) ∧ FnOK Tryz.prog true 95 [ringP d f] (.c (nql (Q.tq (Q.red d f (Q.xp 1)) d) (Q.red d f (Q.xp 1)))) := by
  obtain ⟨r, r1, r2, r3⟩ := rnormal_n (D := 1) (B := 1) hF (Q.xp_fin 1) (by decide) (by decide) one_lt_kd xp_bd (by rw [Nat.one_mul]; exact hC)
  have e := Q.red_of hF.mon r1
  rw [← e]
  refine ⟨fun k => by have := r2 k; rwa [Nat.one_mul] at this, ?_⟩
  have h0 := qof_zero
  have h1 := qof_one
  have r3 : FnOK Tryz.prog true 94 [ringP d f, .c (.row 4 2 (rowF 4 (nq 0 ++ nq 1)))] (.c (nql (Q.tq r d) r)) := arg_ok r3 fun D w vs h => by
    match vs, h with
    | [v0, v1], ⟨g0, g1, _⟩ =>
      refine ⟨g0, subRowG rfl (fun i j hi hj => ?_) D w v1 g1, trivial⟩
      match i, j, hi, hj with
      | 0, 0, _, _ => rfl
      | 0, 1, _, _ => rfl
      | 0, 2, _, _ => rfl
      | 0, 3, _, _ => rfl
      | 1, 0, _, _ => rfl
      | 1, 1, _, _ => rfl
      | 1, 2, _, _ => rfl
      | 1, 3, _, _ => rfl
  clear r1 r2 e hC hF
  generalize Q.tq r d = T at *
  refine fn_ok (E := E1) E1_ok Tryz.func95 rfl mixed (by kernel_rfl) (by kernel_rfl) ?_
  conv => whnf
  refine ⟨_, h0, ?_⟩
  conv => whnf
  refine ⟨_, h1, ?_⟩
  conv => whnf
  refine ⟨fun i j hi hj => ?_, ?_⟩
  · match i, j, hi, hj with
    | 0, 0, _, _ => rfl
    | 0, 1, _, _ => rfl
    | 0, 2, _, _ => rfl
    | 0, 3, _, _ => rfl
    | 1, 0, _, _ => rfl
    | 1, 1, _, _ => rfl
    | 1, 2, _, _ => rfl
    | 1, 3, _, _ => rfl
  conv => whnf
  refine ⟨_, r3, ?_⟩
  conv => whnf
  exact ⟨rfl, Sub.refl _⟩
theorem app_zero {f g : Nat → Nat → Cell} (i j : Nat) : appF 0 f g i j = g i j := if_neg (Nat.not_lt_zero i)
set_option maxHeartbeats 4000000 in
theorem rcoord_ok {d m : Nat} {f x : Nat → Rat} (hx : Q.Fin m x) (hm : m ≤ d) (hd : d ≤ 12) : FnOK Tryz.prog true 125 [ringP d f, .c (nql m x)] (.c (nql d x)) := by
  have h0 := qof_zero
  refine fn_ok (E := E1) E1_ok Tryz.func125 rfl mixed (by kernel_rfl) (by kernel_rfl) ?_
  conv => whnf
  refine ⟨by show 0 + m ≤ 16777216; omega, fun i j hi hj => ?_, ?_⟩
  · match j, hj with
    | 0, _ => exact ⟨rfl, fun _ => rfl⟩
    | 1, _ => exact ⟨rfl, fun _ => rfl⟩
    | 2, _ => exact ⟨rfl, fun _ => rfl⟩
    | 3, _ => exact ⟨rfl, fun _ => rfl⟩
  conv => whnf
  refine loop_ints (fun k : Nat => gst [(0, ringP d f), (5, .c (.gs 0 0))] [gqr k fun i => ofR (x i)]) (fun k => d - k) (fun k => m ≤ k ∧ k ≤ d) m rfl ?_ ⟨Nat.le_refl _, hm⟩ fun k ⟨hk1, hk2⟩ => ?_
  · exact Weak.gen [some 0] rfl ⟨⟨_, rfl, rfl, rfl, by show 0 + m = m; omega, rfl, fun a b ha hb => regE (app_zero (f := rowF 4 []) (g := qlF fun i => ofR (x i)) a b) (ql_clos (c := fun i => ofR (x i)) a b)⟩, trivial⟩ ⟨⟨rfl, rfl⟩, ⟨_, rfl, rfl, rfl⟩, trivial⟩
  have hxk : ∀ j, (if j = k then nq 0 else nq (x j)) = nq (x j) := fun j => by
    split
    · rename_i e
      rw [e, hx k hk1]
    · rfl
  conv => whnf
  refine bcase (fun (h : decide ((k : Int) < ((d + 1 : Nat) : Int) - 1) = true) => ?_) fun (h : decide ((k : Int) < ((d + 1 : Nat) : Int) - 1) = false) => ?_
  · have h := of_decide_eq_true h
    conv => whnf
    refine ⟨_, h0, ?_⟩
    conv => whnf
    refine ⟨by show k + 1 ≤ 16777216; omega, fun i j hi hj => ?_, ?_⟩
    · match i, j, hi, hj with
      | 0, 0, _, _ => exact ⟨rfl, fun _ => rfl⟩
      | 0, 1, _, _ => exact ⟨rfl, fun _ => rfl⟩
      | 0, 2, _, _ => exact ⟨rfl, fun _ => rfl⟩
      | 0, 3, _, _ => exact ⟨rfl, fun _ => rfl⟩
    conv => whnf
    refine ⟨k + 1, by omega, Weak.gen [some 0] rfl ⟨⟨_, rfl, rfl, rfl, rfl, rfl, fun a b ha hb => regE ?_ (ql_clos (c := fun i => ofR (x i)) a b)⟩, trivial⟩ ⟨⟨rfl, rfl⟩, ⟨_, rfl, rfl, rfl⟩, trivial⟩, by omega, by omega⟩
    exact appG (sz := 4) (g := fun i => nq (x i)) (g' := fun i => nq (x i)) (l := nq 0) (hxk a) (Nat.le_refl (k + 1)) ha
  · have h := of_decide_eq_false h
    have e : k = d := by omega
    conv => whnf
    refine ⟨fun i j _ _ => ql_clos (c := fun i => ofR (x i)) i j, ?_⟩
    conv => whnf
    exact ⟨rfl, subRowG e fun _ _ _ _ => rfl⟩
end Rf
end Go.Proofs.YtnoecgnhepppkaaGreat
