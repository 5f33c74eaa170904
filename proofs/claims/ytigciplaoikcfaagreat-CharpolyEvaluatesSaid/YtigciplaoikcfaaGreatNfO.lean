/- A well-formed number field opened; normal forms, sums and products of its elements. -/
import Derived.Test.YtigciplaoikcfaaGreatQlD
import Derived.Test.YtigciplaoikcfaaGreatQr
namespace Go.Proofs.YtigciplaoikcfaaGreat
open Go.RowKit
namespace Rf
abbrev ringL (d : Nat) (f : Nat → Rat) : List Cell := [nql (d + 1) f, .int .i64 (((d + 1 : Nat) : Int) - 1)]
set_option maxHeartbeats 4000000 in
theorem open_good {n d : Nat} {c : Nat → RawZ} {f : Nat → Rat} (hfv : (fun i => ((vz c i : Int) : Rat)) = f) (h : wl n c) (hd : tl (vz c) n = d + 1) (h1 : 1 ≤ d) (h2 : d ≤ 12) (h3 : vz c d = 1) : FnOK Tryz.prog true 154 [.g [zl n c]] (.t2 (.c (.xp 2 fun j => boxF (ringL d f) 0 (0 + j))) (.c (.int .i64 0))) := by
  have n1 := znormal_ok h
  have hw : wl (tl (vz c) n) fun i => ofZ (vz c i) := ⟨Nat.le_trans (tl_le _ _) h.1, fun i hi => wr_nz (Nat.le_trans (wr_len (h.2 i (Nat.lt_of_lt_of_le hi (tl_le _ _)))) (h.2 i (Nat.lt_of_lt_of_le hi (tl_le _ _))).2)⟩
  have e1 : vz (fun i => ofZ (vz c i)) = vz c := funext fun i => ofZ_val _
  have n2 := qpof_eq (v := f) (by rw [← hfv, e1]) hw
  rw [e1, tl_tl, hd] at n2
  rw [hd] at n1
  have n3 := qof_ok (n := 1) (by decide) (by decide)
  have n4 : FnOK Tryz.prog true 176 [.g (nq (f (((d + 1 : Nat) : Int) - 1).toNat)), .g (nq ((1 : Int) : Rat))] (.c (.int .i64 0)) := by
    have := qcmp_one (x := 1) (by decide)
    rw [show (((d + 1 : Nat) : Int) - 1).toNat = d by omega, ← hfv]
    show FnOK _ _ _ [.g (nq ((vz c d : Int) : Rat)), _] _
    rw [h3]
    exact this
  clear hfv h hd hw e1 h3
  generalize vz c = v at *
  refine fn_ok (E := E1) E1_ok Tryz.func154 rfl mixed (by kernel_rfl) (by kernel_rfl) ?_
  conv => whnf
  refine ⟨_, n1, ?_⟩
  conv => whnf
  refine ⟨_, n2, ?_⟩
  conv => whnf
  refine ⟨i64 (by omega) (by omega), ?_⟩
  conv => whnf
  refine bpos (gw_true.2 (show decide (((d + 1 : Nat) : Int) - 1 < 1) = false from decide_eq_false (by omega))) ?_
  conv => whnf
  refine bpos (gw_true.2 (show decide ((12 : Int) < ((d + 1 : Nat) : Int) - 1) = false from decide_eq_false (by omega))) ?_
  conv => whnf
  refine ⟨by omega, by omega, ?_⟩
  conv => whnf
  refine ⟨_, n3, ?_⟩
  conv => whnf
  refine ⟨_, n4, ?_⟩
  conv => whnf
  refine ⟨fun i j _ _ => box_clos (l := ringL d f) (i := i) (j := j) rfl, ?_⟩
  conv => whnf
  exact ⟨rfl, Sub.refl _⟩
abbrev ringP (d : Nat) (f : Nat → Rat) : V := .c (.xp 2 fun j => boxF (ringL d f) 0 (0 + j))
set_option maxHeartbeats 4000000 in
theorem rnormal_raw {n d : Nat} {q : Nat → RawR} {p f : Nat → Rat} {L K : Nat} (hp : Q.qx n (fun i => (q i).val) = p) (hf : Q.Mon d f) (hn : n ≤ 4096) (hd : d ≤ 4096) (hq : ∀ i, i < n → (q i).Fit L) (hs : ∀ t k, t ≤ Q.tq p n - d → qlen (Q.dvs d f (Q.tq p n - d) p t k) ≤ K) (hg : ∀ j, qlen (f j) ≤ K) (h1 : 1 ≤ K) (hL : L + 3 ≤ LIM) (hL2 : K + K + K + 16 ≤ LIM) : FnOK Tryz.prog true 155 [ringP d f, .c (ql n q)] (.c (nql (Q.tq (Q.rst d f p (Q.tq p n)) d) (Q.rst d f p (Q.tq p n)))) := by
  obtain ⟨Y, hY, n3⟩ := qpdivmod_ok hp hf hn hd hq hs hg h1 hL hL2
  clear hs hg hq hp hf
  generalize Q.rst d f p (Q.tq p n) = r at *
  generalize Q.tq r d = T at *
  rcases hY with rfl | ⟨N', u, rfl⟩
  all_goals
    refine fn_ok (E := E1) E1_ok Tryz.func155 rfl mixed (by kernel_rfl) (by kernel_rfl) ?_
    conv => whnf
    refine ⟨_, n3, ?_⟩
    conv => whnf
    exact ⟨rfl, Sub.refl _⟩
/-- How long numbers may get, in digits. -/
abbrev KD : Nat := 1048576
theorem kd_lim : KD + KD + KD + KD + 16 ≤ LIM := by decide
/-- A monic polynomial over the integers, its coefficients at most C. -/
structure Fd (d C : Nat) (f : Nat → Rat) : Prop where
  mon : Q.Mon d f
  pos : 1 ≤ d
  low : d ≤ 12
  bd : ∀ j, Bd 1 C (f j)
  small : C < Dg.B ^ KD
theorem bd_fit {D B : Nat} {x : Rat} (h : Bd D B x) (h0 : 0 < D) (hD : D < Dg.B ^ KD) (hB : B < Dg.B ^ KD) : qlen x ≤ KD := h.len h0 hD hB (by decide)
theorem one_lt_kd : 1 < Dg.B ^ KD := Nat.lt_of_lt_of_le (show 1 < Dg.B ^ 1 by decide) (Nat.pow_le_pow_right (by decide) (by decide))
theorem rnormal_ok {n d D B C : Nat} {q : Nat → RawR} {p f : Nat → Rat} (hF : Fd d C f) (hp : Q.qx n (fun i => (q i).val) = p) (hn : n ≤ 64) (hq : ∀ i, i < n → (q i).Fit KD) (h0 : 0 < D) (hD : D < Dg.B ^ KD) (hb : ∀ k, Bd D B (p k)) (hB : B * (1 + C) ^ n < Dg.B ^ KD) : ∃ r, Q.Rm d f p r ∧ (∀ k, Bd D (B * (1 + C) ^ n) (r k)) ∧ FnOK Tryz.prog true 155 [ringP d f, .c (ql n q)] (.c (nql (Q.tq r d) r)) := by
  have fp : Q.Fin n p := by rw [← hp]; exact Q.qx_fin _ _
  have hm := Q.tq_le p n
  have hst : ∀ t k, t ≤ Q.tq p n - d → Bd D (B * (1 + C) ^ n) (Q.dvs d f (Q.tq p n - d) p t k) := fun t k ht => (Q.dvs_bd hb hF.bd t k).mono (Nat.mul_le_mul_left _ (Nat.pow_le_pow_right (by omega) (by omega)))
  have hlow := hF.low
  exact ⟨Q.rst d f p (Q.tq p n), Q.rst_rm hF.mon (Q.tq_fin fp), fun k => hst _ k (Nat.le_refl _), rnormal_raw hp hF.mon (by omega) (by omega) hq (fun t k ht => bd_fit (hst t k ht) h0 hD hB) (fun j => bd_fit (hF.bd j) (by decide) one_lt_kd hF.small) (by decide) (by decide) (by decide)⟩
/-- The same of a list in normal form. -/
theorem rnormal_n {n d D B C : Nat} {p f : Nat → Rat} (hF : Fd d C f) (fp : Q.Fin n p) (hn : n ≤ 64) (h0 : 0 < D) (hD : D < Dg.B ^ KD) (hb : ∀ k, Bd D B (p k)) (hB : B * (1 + C) ^ n < Dg.B ^ KD) : ∃ r, Q.Rm d f p r ∧ (∀ k, Bd D (B * (1 + C) ^ n) (r k)) ∧ FnOK Tryz.prog true 155 [ringP d f, .c (nql n p)] (.c (nql (Q.tq r d) r)) := by
  have hB1 : B < Dg.B ^ KD := Nat.lt_of_le_of_lt (Nat.le_mul_of_pos_right B (Nat.pow_pos (by omega))) hB
  refine rnormal_ok (q := fun i => ofR (p i)) hF ?_ hn (fun i _ => ofR_fit (bd_fit (hb i) h0 hD hB1)) h0 hD hb hB
  rw [show (fun i => (ofR (p i)).val) = p from funext fun i => ofR_val _]
  exact Q.qx_self fp
end Rf
end Go.Proofs.YtigciplaoikcfaaGreat
/- Number fields: the calls of sums and products; coordinates, and the letter. -/
namespace Go.Proofs.YtigciplaoikcfaaGreat
open Go.RowKit
open Classical in
/-- The rest, as a function. -/
noncomputable def Q.red (d : Nat) (f p : Nat → Rat) : Nat → Rat := if h : ∃ r, Q.Rm d f p r then h.choose else p
theorem Q.red_of {d : Nat} {f p r : Nat → Rat} (hf : Q.Mon d f) (h : Q.Rm d f p r) : r = Q.red d f p := by
  have e : ∃ r, Q.Rm d f p r := ⟨r, h⟩
  have : Q.red d f p = e.choose := dif_pos e
  rw [this]
  exact funext (h.eq hf e.choose_spec)
theorem Q.red_rm {d m : Nat} {f p : Nat → Rat} (hf : Q.Mon d f) (hp : Q.Fin m p) : Q.Rm d f p (Q.red d f p) := by
  have h := Q.dvs_rm hf (N := m) (hp.mono (show m ≤ m + d by omega))
  rw [← Q.red_of hf h]
  exact h
namespace Rf
theorem qof_one : FnOK Tryz.prog true 66 [.c (.int .i64 1)] (.g (nq 1)) := by
  have h := qof_ok (n := 1) (by decide) (by decide)
  rwa [show ((1 : Int) : Rat) = 1 from rfl] at h
/-- The letter, as a list of two. -/
theorem xp_list : (Q.qx 2 fun i => (ofR (Q.xp 1 i)).val) = Q.xp 1 := by
  rw [show (fun i => (ofR (Q.xp 1 i)).val) = Q.xp 1 from funext fun i => ofR_val _]
  exact Q.qx_self (Q.xp_fin 1)
theorem xp_bd (k : Nat) : Bd 1 1 (Q.xp 1 k) := by
  unfold Q.xp
  split
  · exact Bd.int 1
  · exact Bd.zero _ _
theorem app_zero {f g : Nat → Nat → Cell} (i j : Nat) : appF 0 f g i j = g i j := if_neg (Nat.not_lt_zero i)
end Rf
end Go.Proofs.YtigciplaoikcfaaGreat
