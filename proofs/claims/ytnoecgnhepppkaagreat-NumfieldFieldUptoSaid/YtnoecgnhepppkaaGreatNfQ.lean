/- Number fields: sums, products and matrices of multiplications of bounded elements. -/
import Derived.Test.YtnoecgnhepppkaaGreatMtA
namespace Go.Proofs.YtnoecgnhepppkaaGreat
open Go.RowKit
namespace Rf
/-- A list that reads as the element A: over the denominator D, the numerators at most 2^e. -/
structure Ev (N : Nat) (q : Nat → RawR) (A : Nat → Rat) (D e : Nat) : Prop where
  val : Q.qx N (fun i => (q i).val) = A
  len : N ≤ 32
  fit : ∀ i, i < N → (q i).Fit KD
  bd : ∀ k, Bd D (2 ^ e) (A k)
/-- A field, opened. -/
structure Fk (n : Nat) (c : Nat → RawZ) (d : Nat) (f : Nat → Rat) : Prop where
  opn : FnOK Tryz.prog true 50 [.g [zl n c]] (.t2 (ringP d f) (.c (.int .i64 0)))
  fd : Fd d 255 f
theorem pow_B (L : Nat) : Dg.B ^ L = 2 ^ (32 * L) := (Nat.pow_mul 2 32 L).symm
theorem pow_lt_B {e L : Nat} (h : e < 32 * L) : 2 ^ e < Dg.B ^ L := by
  rw [pow_B]
  exact Nat.pow_lt_pow_right (by decide) h
theorem two_lt {e : Nat} (h : e ≤ 1000000) : 2 ^ e < Dg.B ^ KD := pow_lt_B (L := KD) (by show e < 32 * 1048576; omega)
theorem le_lim {D : Nat} (h : D ≤ 2 ^ 1000000) : D < Dg.B ^ KD := Nat.lt_of_le_of_lt h (two_lt (e := 1000000) (Nat.le_refl _))
theorem one_le_pow2 (e : Nat) : 1 ≤ 2 ^ e := Nat.one_le_two_pow
theorem pow_c (a n : Nat) : 2 ^ a * (1 + 255) ^ n = 2 ^ (a + 8 * n) := by
  rw [show (1 + 255 : Nat) = 2 ^ 8 from rfl, ← Nat.pow_mul, ← Nat.pow_add]
theorem Ev.mono {N : Nat} {q : Nat → RawR} {A : Nat → Rat} {D e e' : Nat} (h : Ev N q A D e) (he : e ≤ e') : Ev N q A D e' :=
  ⟨h.val, h.len, h.fit, fun k => (h.bd k).mono (Nat.pow_le_pow_right (by decide) he)⟩
theorem Ev.fin {N : Nat} {q : Nat → RawR} {A : Nat → Rat} {D e : Nat} (h : Ev N q A D e) : Q.Fin N A := by
  rw [← h.val]; exact Q.qx_fin _ _
/-- An element in normal form. -/
theorem ev_n {d D e : Nat} {r : Nat → Rat} (hr : Q.Fin d r) (hd : d ≤ 12) (hb : ∀ k, Bd D (2 ^ e) (r k)) (h0 : 0 < D) (hD : D ≤ 2 ^ 1000000) (he : e ≤ 1000000) : Ev (Q.tq r d) (fun i => ofR (r i)) r D e :=
  ⟨by
    rw [show (fun i => (ofR (r i)).val) = r from funext fun i => ofR_val _]
    exact Q.qx_self (Q.tq_fin hr), by have := Q.tq_le r d; omega, fun i _ => ofR_fit (bd_fit (hb i) h0 (le_lim hD) (two_lt he)), hb⟩
theorem nAdd_e {n d N M D e : Nat} {c : Nat → RawZ} {f A B : Nat → Rat} {q p : Nat → RawR} (hk : Fk n c d f) (hA : Ev N q A D e) (hB : Ev M p B D e) (h0 : 0 < D) (hD : D ≤ 2 ^ 1000000) (he : e ≤ 100000) : ∃ r, Q.Rm d f (fun k => A k + B k) r ∧ Ev (Q.tq r d) (fun i => ofR (r i)) r D (e + 513) ∧ FnOK Tryz.prog true 19 [.g [zl n c], .c (ql N q), .c (ql M p)] (.t2 (.c (nql (Q.tq r d) r)) (.c (.int .i64 0))) := by
  have hw : (2 ^ e + 2 ^ e) * (1 + 255) ^ 64 = 2 ^ (e + 513) := by
    rw [← Nat.two_mul, ← Nat.pow_succ', pow_c]
  have hD' := le_lim hD
  obtain ⟨r, r1, r2, r3⟩ := radd_ok hk.fd hA.val hB.val hA.len hB.len hA.fit hB.fit h0 hD' hA.bd hB.bd (by rw [hw]; exact two_lt (by omega))
  rw [hw] at r2
  exact ⟨r, r1, ev_n r1.1 hk.fd.low r2 h0 hD (by omega), nAdd_ok hk.opn r3⟩
theorem two_mul_le {D D' a b : Nat} (h : D ≤ 2 ^ a) (h' : D' ≤ 2 ^ b) : D * D' ≤ 2 ^ (a + b) := by
  rw [Nat.pow_add]
  exact Nat.mul_le_mul h h'
theorem pow_m (a b : Nat) : 32 * (2 ^ a * 2 ^ b) * (1 + 255) ^ 64 = 2 ^ (a + b + 517) := by
  rw [← Nat.pow_add, show 32 * 2 ^ (a + b) = 2 ^ (a + b + 5) by rw [Nat.pow_add 2 (a + b) 5, Nat.mul_comm], pow_c]
theorem nMul_e {n d N M D D' a b : Nat} {c : Nat → RawZ} {f A B : Nat → Rat} {q p : Nat → RawR} (hk : Fk n c d f) (hA : Ev N q A D a) (hB : Ev M p B D' b) (h0 : 0 < D) (h0' : 0 < D') (hD : D * D' ≤ 2 ^ 1000000) (ha : a ≤ 100000) (hb : b ≤ 100000) : ∃ r, Q.Rm d f (Q.cf A B) r ∧ Ev (Q.tq r d) (fun i => ofR (r i)) r (D * D') (a + b + 517) ∧ FnOK Tryz.prog true 20 [.g [zl n c], .c (ql N q), .c (ql M p)] (.t2 (.c (nql (Q.tq r d) r)) (.c (.int .i64 0))) := by
  have hD' := le_lim hD
  obtain ⟨r, r1, r2, r3⟩ := rmul_ok hk.fd hA.val hB.val hA.len hB.len hA.fit hB.fit h0 h0' hD' hA.bd hB.bd (by rw [pow_m]; exact two_lt (by omega))
  rw [pow_m] at r2
  exact ⟨r, r1, ev_n r1.1 hk.fd.low r2 (Nat.mul_pos h0 h0') hD (by omega), nMul_ok hk.opn r3⟩
/-- The rows of a multiplication matrix. -/
noncomputable def mrow (d : Nat) (f A : Nat → Rat) : Nat → Nat → Rat
  | 0 => Q.red d f A
  | i + 1 => Q.red d f (Q.cf (mrow d f A i) (Q.red d f (Q.xp 1)))
theorem mrow_rm {d N : Nat} {f A : Nat → Rat} (hf : Q.Mon d f) (hA : Q.Fin N A) : Q.Rws d f A (Q.red d f (Q.xp 1)) (mrow d f A) := by
  have hg := Q.red_rm hf (Q.xp_fin 1)
  have h0 := Q.red_rm hf hA
  have hfin : ∀ i, Q.Fin d (mrow d f A i) := fun i => by
    induction i with
    | zero => exact h0.1
    | succ i ih => exact (Q.red_rm hf (ih.cf hg.1)).1
  exact ⟨h0, fun i => Q.red_rm hf ((hfin i).cf hg.1)⟩
theorem nMult_e {n d N D e : Nat} {c : Nat → RawZ} {f A : Nat → Rat} {q : Nat → RawR} (hk : Fk n c d f) (hA : Ev N q A D e) (h0 : 0 < D) (hD : D ≤ 2 ^ 1000000) (he : e ≤ 50000) : (∀ i k, i ≤ d → Bd D (2 ^ (e + 256 + 533 * i)) (mrow d f A i k)) ∧ FnOK Tryz.prog true 21 [.g [zl n c], .c (ql N q)] (.t2 (.g (matL d d (mrow d f A))) (.c (.int .i64 0))) := by
  have hlow := hk.fd.low
  have hmon := hk.fd.mon
  have hD' := le_lim hD
  have hlen := hA.len
  have hb0 : 2 ^ e * (1 + 255) ^ N ≤ 2 ^ (e + 256) := by
    rw [pow_c]
    exact Nat.pow_le_pow_right (by decide) (by omega)
  obtain ⟨r, r1, r2, r3⟩ := rnormal_ok hk.fd hA.val (by omega) hA.fit h0 hD' hA.bd (Nat.lt_of_le_of_lt hb0 (two_lt (by omega)))
  have hr := Q.red_of hmon r1
  obtain ⟨g1, g2⟩ := rgen_ok hk.fd (by rw [show (1 + 255) ^ 2 = 2 ^ 16 from rfl]; exact two_lt (by decide))
  rw [show (1 + 255) ^ 2 = 2 ^ 16 from rfl] at g1
  have hg := Q.red_rm hmon (Q.xp_fin 1)
  have evg : Ev (Q.tq (Q.red d f (Q.xp 1)) d) (fun i => ofR (Q.red d f (Q.xp 1) i)) (Q.red d f (Q.xp 1)) 1 16 := ev_n hg.1 hlow g1 (by decide) (one_le_pow2 1000000) (by decide)
  have hw := mrow_rm hmon hA.fin
  have key : ∀ i, i ≤ 12 → Ev (Q.tq (mrow d f A i) d) (fun k => ofR (mrow d f A i k)) (mrow d f A i) D (e + 256 + 533 * i) := fun i => by
    induction i with
    | zero =>
      intro _
      have e1 : mrow d f A 0 = r := hr.symm
      rw [e1]
      exact ev_n r1.1 hlow (fun k => (r2 k).mono hb0) h0 hD (by omega)
    | succ i ih =>
      intro hi
      have ih := ih (by omega)
      obtain ⟨s, s1, s2, _⟩ := rmul_ok hk.fd ih.val evg.val ih.len evg.len ih.fit evg.fit h0 (by decide) (by rw [Nat.mul_one]; exact hD') ih.bd evg.bd (by rw [pow_m]; exact two_lt (by omega))
      have e1 : s = mrow d f A (i + 1) := Q.red_of hmon s1
      rw [pow_m, Nat.mul_one, show e + 256 + 533 * i + 16 + 517 = e + 256 + 533 * (i + 1) by omega, e1] at s2
      exact ev_n (hw.next i).1 hlow s2 h0 hD (by omega)
  have step : ∀ i, i < d → FnOK Tryz.prog true 62 [ringP d f, .c (nql (Q.tq (mrow d f A i) d) (mrow d f A i)), .c (nql (Q.tq (Q.red d f (Q.xp 1)) d) (Q.red d f (Q.xp 1)))] (.c (nql (Q.tq (mrow d f A (i + 1)) d) (mrow d f A (i + 1)))) := fun i hi => by
    have ih := key i (by omega)
    obtain ⟨s, s1, _, s3⟩ := rmul_ok hk.fd ih.val evg.val ih.len evg.len ih.fit evg.fit h0 (by decide) (by rw [Nat.mul_one]; exact hD') ih.bd evg.bd (by rw [pow_m]; exact two_lt (by omega))
    have e1 : s = mrow d f A (i + 1) := Q.red_of hmon s1
    rw [e1] at s3
    exact s3
  have bds : ∀ i k, i ≤ d → Bd D (2 ^ (e + 256 + 533 * i)) (mrow d f A i k) := fun i k hi => (key i (by omega)).bd k
  refine ⟨bds, nMult_ok hk.opn (rmult_ok hlow (by
    have e1 : r = mrow d f A 0 := hr
    rw [← e1]
    exact r3) g2 (fun i hi => rcoord_ok (Q.tq_fin ?_) (Q.tq_le _ _) hlow) step (fromRows_ok (by omega) (by omega) fun i j hi hj => bd_fit (bds i j (by omega)) h0 hD' (two_lt (by omega))))⟩
  match i with
  | 0 => exact hw.first.1
  | i + 1 => exact (hw.next i).1
end Rf
end Go.Proofs.YtnoecgnhepppkaaGreat
/- The law's test of a field: its list short, well-formed, of small degree and small coefficients. -/
namespace Go.Proofs.YtnoecgnhepppkaaGreat
open Go.RowKit
namespace Rf
theorem bits_zr {a : RawZ} (h : wr a) : FnOK Tryz.prog false 48 [.g (zr a)] (.c (.int .i64 (lb a.val.natAbs : Nat))) := by
  have := rbits_ok (s := a.neg) (ld_ok h.1 a.ds.length) h.2
  rwa [show nv (ld a.ds) a.ds.length = a.val.natAbs by rw [← nv_raw, sgn_abs]] at this
set_option maxHeartbeats 4000000 in
theorem degree14_ok {n : Nat} {c : Nat → RawZ} (h : wl n c) : FnOK Tryz.prog false 31 [.g [zl n c]] (.c (.int .i64 ((tl (vz c) n : Nat) - 1))) := by
  have s := degree5_ok h
  refine fn_ok (E := E0) E0_ok Tryz.func31 rfl mixed (by kernel_rfl) (by kernel_rfl) ?_
  conv => whnf
  refine ⟨_, s, ?_⟩
  conv => whnf
  exact ⟨rfl, Sub.refl _⟩
/-- What the law asks of a field. -/
def lite (n : Nat) (v : Nat → Int) (m : Nat) : Prop := n ≤ 20 ∧ formed n v ∧ tl v n ≤ m + 1 ∧ ∀ i, i < n → lb (v i).natAbs ≤ 8
set_option maxHeartbeats 4000000 in
theorem light_ok {n m : Nat} {c : Nat → RawZ} {r : Bool} (hc : ∀ i, i < n → wr (c i)) (hr : r = true ↔ lite n (vz c) m) : FnOK Tryz.prog false 8 [.g [zl n c], .c (.int .i64 m)] (.c (.bool r)) := by
  have hw : n ≤ 20 → wl n c := fun a => ⟨by omega, hc⟩
  have h1 := fun a => formed_ok (hw a)
  have h2 := fun a => degree14_ok (hw a)
  have h3 : ∀ i, i < n → FnOK Tryz.prog false 48 [.g (zr (c i))] (.c (.int .i64 (lb (vz c i).natAbs : Nat))) := fun i hi => bits_zr (hc i hi)
  have r1 : ¬ n ≤ 20 → false = r := fun a => (Bool.eq_false_iff.2 fun e => a (hr.1 e).1).symm
  have r2 : ¬ formed n (vz c) → false = r := fun a => (Bool.eq_false_iff.2 fun e => a (hr.1 e).2.1).symm
  have r3 : ¬ tl (vz c) n ≤ m + 1 → false = r := fun a => (Bool.eq_false_iff.2 fun e => a (hr.1 e).2.2.1).symm
  have r4 : ∀ i, i < n → ¬ lb (vz c i).natAbs ≤ 8 → false = r := fun i hi a => (Bool.eq_false_iff.2 fun e => a ((hr.1 e).2.2.2 i hi)).symm
  have r5 : n ≤ 20 → formed n (vz c) → tl (vz c) n ≤ m + 1 → (∀ i, i < n → lb (vz c i).natAbs ≤ 8) → true = r := fun a b d e => (hr.2 ⟨a, b, d, e⟩).symm
  clear hr hw hc
  generalize hfm : decide (formed n (vz c)) = fm at *
  have f1 : fm = false → ¬ formed n (vz c) := fun e => of_decide_eq_false (hfm.trans e)
  have f2 : fm = true → formed n (vz c) := fun e => of_decide_eq_true (hfm.trans e)
  clear hfm
  refine fn_ok (E := E0) E0_ok Tryz.func8 rfl mixed (by kernel_rfl) (by kernel_rfl) ?_
  conv => whnf
  refine bcase (fun (h : gw false (decide ((20 : Int) < n)) = true) => ?_) fun (h : gw false (decide ((20 : Int) < n)) = false) => ?_
  · have h := of_decide_eq_false (gwf h)
    have h1 := h1 (by omega)
    have h2 := h2 (by omega)
    have r5 := r5 (by omega)
    conv => whnf
    refine ⟨_, h1, ?_⟩
    conv => whnf
    refine bcase (fun (k : gw false (!fm) = true) => ?_) fun (k : gw false (!fm) = false) => ?_
    · have k : fm = true := by have := gwf k; simpa using this
      have r5 := r5 (f2 k)
      conv => whnf
      refine ⟨_, h2, ?_⟩
      conv => whnf
      refine bcase (fun (l : decide ((m : Int) < (tl (vz c) n : Nat) - 1) = true) => ?_) fun (l : decide ((m : Int) < (tl (vz c) n : Nat) - 1) = false) => ?_
      · have l := of_decide_eq_true l
        have g := r3 (by omega)
        conv => whnf
        exact ⟨rfl, sub_bool g⟩
      · have l := of_decide_eq_false l
        have r5 := r5 (by omega)
        conv => whnf
        refine loop_ints (fun i : Nat => gst [(2, .c (.p 0 0 1 0 0)), (5, .c (.int .i64 i))] [⟨25, 1, 1, boxF [zl n c]⟩]) (fun i => n - i) (fun i => i ≤ n ∧ ∀ j, j < i → lb (vz c j).natAbs ≤ 8) 0 rfl (Weak.gen [some 0] rfl ⟨boxK rfl rfl, trivial⟩ ⟨⟨_, rfl, rfl, rfl⟩, ⟨_, rfl, rfl⟩, trivial⟩) ⟨Nat.zero_le _, fun j hj => absurd hj (Nat.not_lt_zero j)⟩ fun i ⟨hi, hh⟩ => ?_
        have h3 := h3 i
        have r4 := r4 i
        conv => whnf
        refine bcase (fun (u : decide ((i : Int) < n) = true) => ?_) fun (u : decide ((i : Int) < n) = false) => ?_
        · have u := of_decide_eq_true u
          have h3 := h3 (by omega)
          have r4 := r4 (by omega)
          conv => whnf
          refine ⟨by omega, by omega, ?_⟩
          conv => whnf
          refine ⟨_, h3, ?_⟩
          conv => whnf
          refine bcase (fun (w : decide ((8 : Int) < (lb (vz c i).natAbs : Nat)) = true) => ?_) fun (w : decide ((8 : Int) < (lb (vz c i).natAbs : Nat)) = false) => ?_
          · have w := of_decide_eq_true w
            have g := r4 (by omega)
            conv => whnf
            exact ⟨rfl, sub_bool g⟩
          · have w := of_decide_eq_false w
            conv => whnf
            refine ⟨i64 (by omega) (by omega), ?_⟩
            conv => whnf
            refine ⟨i + 1, by omega, Weak.gen [some 0] rfl ⟨boxK rfl rfl, trivial⟩ ⟨⟨_, rfl, rfl, rfl⟩, ⟨_, rfl, rfl⟩, trivial⟩, by omega, fun j hj => ?_⟩
            by_cases e : j = i
            · rw [e]; omega
            · exact hh j (by omega)
        · have u := of_decide_eq_false u
          have g := r5 fun j hj => hh j (by omega)
          conv => whnf
          exact ⟨rfl, sub_bool g⟩
    · have k : fm = false := by have := gwf' k; simpa using this
      have g := r2 (f1 k)
      conv => whnf
      exact ⟨rfl, sub_bool g⟩
  · have h := of_decide_eq_true (gwf' h)
    have g := r1 (by omega)
    conv => whnf
    exact ⟨rfl, sub_bool g⟩
end Rf
end Go.Proofs.YtnoecgnhepppkaaGreat
/- The law NumfieldField: its calls, one behind the other, and what they hand back. -/
namespace Go.Proofs.YtnoecgnhepppkaaGreat
open Go.RowKit
theorem tl_behind {a : Nat → Int} : ∀ {n k : Nat}, tl a n ≤ k → k < n → a k = 0
  | 0, k, _, h => absurd h (Nat.not_lt_zero k)
  | n + 1, k, h, hk => by
    unfold tl at h
    split at h
    · rename_i h0
      by_cases e : k = n
      · rw [e]; exact h0
      · exact tl_behind h (by omega)
    · omega
theorem su_bd {D B : Nat} {f : Nat → Rat} (h : ∀ i, Bd D B (f i)) : ∀ n, Bd D (n * B) (Q.su f n)
  | 0 => Bd.zero _ _
  | n + 1 => by
    rw [Nat.add_mul, Nat.one_mul]
    exact (su_bd h n).add (h n)
namespace Rf
/-- A field that the law's test lets by, opened. -/
theorem field_of {n m : Nat} {c : Nat → RawZ} (hc : ∀ i, i < n → wr (c i)) (hz : ∀ i, n ≤ i → vz c i = 0) (h : lite n (vz c) m) : ∃ d f, tl (vz c) n = d + 1 ∧ d ≤ m ∧ Fk n c d f := by
  obtain ⟨h1, ⟨f1, f2, f3⟩, h3, h4⟩ := h
  have top : vz c (tl (vz c) n - 1) = 1 := by
    have f3 : co (vz c) n ((tl (vz c) n : Nat) - 1) = 1 := f3
    unfold co at f3
    split at f3
    · rwa [show (((tl (vz c) n : Nat) : Int) - 1).toNat = tl (vz c) n - 1 by omega] at f3
    · exact absurd f3 (by decide)
  have beh : ∀ k, tl (vz c) n ≤ k → vz c k = 0 := fun k hk => by
    rcases Nat.lt_or_ge k n with a | a
    · exact tl_behind hk a
    · exact hz k a
  refine ⟨tl (vz c) n - 1, fun i => ((vz c i : Int) : Rat), by omega, by omega, ?_, ?_⟩
  · exact open_good rfl ⟨by omega, hc⟩ (by omega) (by omega) (by omega) top
  · refine ⟨⟨?_, fun k hk => ?_⟩, by omega, by omega, fun j => ?_, Nat.lt_trans (show 255 < 2 ^ 8 by decide) (two_lt (by decide))⟩
    · show ((vz c (tl (vz c) n - 1) : Int) : Rat) = 1
      rw [top]; rfl
    · show ((vz c k : Int) : Rat) = 0
      rw [beh k (by omega)]; rfl
    · refine (Bd.int (vz c j)).mono ?_
      rcases Nat.lt_or_ge j n with a | a
      · have := lb_lt (vz c j).natAbs
        have h5 := h4 j a
        have : (vz c j).natAbs < 2 ^ 8 := Nat.lt_of_lt_of_le this (Nat.pow_le_pow_right (by decide) h5)
        omega
      · rw [hz j a]; decide
theorem okq_small {a : RawR} (h : okq a) : a.val.den ≤ 1024 ∧ a.val.num.natAbs ≤ 1024 := by
  have h := h.2.2
  unfold qb at h
  have h1 := lb_lt a.val.num.natAbs
  have h2 := lb_lt (a.val.den : Int).natAbs
  have h3 : a.val.num.natAbs < 2 ^ 10 := Nat.lt_of_lt_of_le h1 (Nat.pow_le_pow_right (by decide) (by omega))
  have h4 : (a.val.den : Int).natAbs < 2 ^ 10 := Nat.lt_of_lt_of_le h2 (Nat.pow_le_pow_right (by decide) (by omega))
  omega
theorem qx_small {n : Nat} {q : Nat → RawR} (h : ∀ j, j < n → okq (q j)) (i : Nat) : (Q.qx n (fun i => (q i).val) i).den ≤ 1024 ∧ (Q.qx n (fun i => (q i).val) i).num.natAbs ≤ 1024 := by
  unfold Q.qx
  split
  · rename_i hi
    exact okq_small (h i hi)
  · exact ⟨by decide, by decide⟩
/-- Two elements that the law's test lets by, over one denominator. -/
theorem pair_of {n m : Nat} {q p : Nat → RawR} (hq : ∀ j, j < n → dgq (q j)) (hp : ∀ j, j < m → dgq (p j)) (hn : n ≤ 12) (hm : m ≤ 12) (oq : ∀ j, j < n → okq (q j)) (op : ∀ j, j < m → okq (p j)) : ∃ D, 0 < D ∧ D ≤ 2 ^ 240 ∧ Ev n q (Q.qx n fun i => (q i).val) D 250 ∧ Ev m p (Q.qx m fun i => (p i).val) D 250 := by
  have fq : Q.Fin 12 (Q.qx n fun i => (q i).val) := (Q.qx_fin _ _).mono hn
  have fp : Q.Fin 12 (Q.qx m fun i => (p i).val) := (Q.qx_fin _ _).mono hm
  have tq := qx_small oq
  have tp := qx_small op
  have eq : ∀ i, i < n → (q i).Fit KD := fun i hi => ⟨(hq i hi).1, (hq i hi).2, Nat.le_trans (oq i hi).1 (by decide), Nat.le_trans (oq i hi).2.1 (by decide)⟩
  have ep : ∀ i, i < m → (p i).Fit KD := fun i hi => ⟨(hp i hi).1, (hp i hi).2, Nat.le_trans (op i hi).1 (by decide), Nat.le_trans (op i hi).2.1 (by decide)⟩
  obtain ⟨D, d0, d1, d2⟩ := Q.common 1024 (by decide) (fun i => if i < 12 then Q.qx n (fun i => (q i).val) i else Q.qx m (fun i => (p i).val) (i - 12)) 24 fun i _ => by
    show (if i < 12 then Q.qx n (fun i => (q i).val) i else Q.qx m (fun i => (p i).val) (i - 12)).den ≤ 1024 ∧ (if i < 12 then Q.qx n (fun i => (q i).val) i else Q.qx m (fun i => (p i).val) (i - 12)).num.natAbs ≤ 1024
    split
    · exact tq i
    · exact tp (i - 12)
  rw [show 1024 ^ 24 = 2 ^ 240 by decide] at d1 d2
  rw [show 1024 * 2 ^ 240 = 2 ^ 250 by decide] at d2
  refine ⟨D, d0, d1, ⟨rfl, by omega, eq, fun k => ?_⟩, ⟨rfl, by omega, ep, fun k => ?_⟩⟩
  · rcases Nat.lt_or_ge k 12 with a | a
    · have := d2 k (by omega)
      rwa [if_pos a] at this
    · rw [fq k a]; exact Bd.zero _ _
  · rcases Nat.lt_or_ge k 12 with a | a
    · have := d2 (k + 12) (by omega)
      rwa [if_neg (by omega), show k + 12 - 12 = k by omega] at this
    · rw [fp k a]; exact Bd.zero _ _
/-- What the law's calls hand back: the sum, its square, the products, the sums; the matrices. -/
structure Calls14 (n na nb : Nat) (c : Nat → RawZ) (qa qb : Nat → RawR) (d t1 t2 t3 t4 t5 t6 t7 : Nat) (one sq aa ab bb two s1 : Nat → Rat) (Ma Mb Mx : Nat → Nat → Rat) : Prop where
  k1 : FnOK Tryz.prog true 19 [.g [zl n c], .c (ql na qa), .c (ql nb qb)] (.t2 (.c (nql t1 one)) (.c (.int .i64 0)))
  k2 : FnOK Tryz.prog true 20 [.g [zl n c], .c (nql t1 one), .c (nql t1 one)] (.t2 (.c (nql t2 sq)) (.c (.int .i64 0)))
  k3 : FnOK Tryz.prog true 20 [.g [zl n c], .c (ql na qa), .c (ql na qa)] (.t2 (.c (nql t3 aa)) (.c (.int .i64 0)))
  k4 : FnOK Tryz.prog true 20 [.g [zl n c], .c (ql na qa), .c (ql nb qb)] (.t2 (.c (nql t4 ab)) (.c (.int .i64 0)))
  k5 : FnOK Tryz.prog true 20 [.g [zl n c], .c (ql nb qb), .c (ql na qa)] (.t2 (.c (nql t4 ab)) (.c (.int .i64 0)))
  k6 : FnOK Tryz.prog true 20 [.g [zl n c], .c (ql nb qb), .c (ql nb qb)] (.t2 (.c (nql t5 bb)) (.c (.int .i64 0)))
  k7 : FnOK Tryz.prog true 19 [.g [zl n c], .c (nql t4 ab), .c (nql t4 ab)] (.t2 (.c (nql t6 two)) (.c (.int .i64 0)))
  k8 : FnOK Tryz.prog true 19 [.g [zl n c], .c (nql t3 aa), .c (nql t6 two)] (.t2 (.c (nql t7 s1)) (.c (.int .i64 0)))
  k9 : FnOK Tryz.prog true 19 [.g [zl n c], .c (nql t7 s1), .c (nql t5 bb)] (.t2 (.c (nql t2 sq)) (.c (.int .i64 0)))
  k10 : FnOK Tryz.prog true 21 [.g [zl n c], .c (ql na qa)] (.t2 (.g (matL d d Ma)) (.c (.int .i64 0)))
  k11 : FnOK Tryz.prog true 21 [.g [zl n c], .c (ql nb qb)] (.t2 (.g (matL d d Mb)) (.c (.int .i64 0)))
  k12 : FnOK Tryz.prog true 21 [.g [zl n c], .c (nql t4 ab)] (.t2 (.g (matL d d Mx)) (.c (.int .i64 0)))
  k13 : FnOK Tryz.prog true 12 [.c (nql t2 sq), .c (nql t2 sq)] (.c (.bool true))
  k14 : FnOK Tryz.prog true 12 [.c (nql t4 ab), .c (nql t4 ab)] (.c (.bool true))
  k15 : FnOK Tryz.prog true 23 [.g (matL d d Ma), .g (matL d d Mb)] (.g (matL d d Mx))
  k16 : FnOK Tryz.prog true 22 [.g (matL d d Mx), .g (matL d d Mx)] (.c (.bool true))
theorem pow_le2 {a b : Nat} (h : a ≤ b) : 2 ^ a ≤ 2 ^ b := Nat.pow_le_pow_right (by decide) h
theorem le_pow {D a b : Nat} (h : D ≤ 2 ^ a) (e : a ≤ b) : D ≤ 2 ^ b := Nat.le_trans h (pow_le2 e)
theorem mul_le_pow {D E a b c : Nat} (h : D ≤ 2 ^ a) (h' : E ≤ 2 ^ b) (e : a + b = c) : D * E ≤ 2 ^ c := e ▸ two_mul_le h h'
theorem bd_doc {D e : Nat} {x : Rat} (h : Bd D (2 ^ e) x) (h0 : 0 < D) (hD : D ≤ 2 ^ 100000) (he : e ≤ 1000000) : qlen x ≤ 65535 :=
  h.len h0 (Nat.lt_of_le_of_lt hD (pow_lt_B (e := 100000) (L := 65535) (by decide))) (pow_lt_B (e := e) (L := 65535) (by omega)) (by decide)
set_option maxHeartbeats 1000000 in
theorem calls14 {n na nb d D : Nat} {c : Nat → RawZ} {qa qb : Nat → RawR} {f A B : Nat → Rat} (hk : Fk n c d f) (hA : Ev na qa A D 250) (hB : Ev nb qb B D 250) (h0 : 0 < D) (hD : D ≤ 2 ^ 240) : ∃ t1 t2 t3 t4 t5 t6 t7 one sq aa ab bb two s1 Ma Mb Mx, d ≤ 12 ∧ Calls14 n na nb c qa qb d t1 t2 t3 t4 t5 t6 t7 one sq aa ab bb two s1 Ma Mb Mx := by
  have hmon := hk.fd.mon
  have hlow := hk.fd.low
  have D1 : D ≤ 2 ^ 1000000 := le_pow (a := 240) (b := 1000000) hD (by decide)
  have DD : D * D ≤ 2 ^ 480 := mul_le_pow (a := 240) (b := 240) (c := 480) hD hD (by decide)
  have D2 : D * D ≤ 2 ^ 1000000 := le_pow (a := 480) (b := 1000000) DD (by decide)
  have D3 : D * D ≤ 2 ^ 100000 := le_pow (a := 480) (b := 100000) DD (by decide)
  have D4 : D ≤ 2 ^ 100000 := le_pow (a := 240) (b := 100000) hD (by decide)
  have h2 : 0 < D * D := Nat.mul_pos h0 h0
  obtain ⟨one, a1, b1, c1⟩ := nAdd_e hk hA hB h0 D1 (by omega)
  obtain ⟨sq, a2, b2, c2⟩ := nMul_e hk b1 b1 h0 h0 D2 (by omega) (by omega)
  obtain ⟨aa, a3, b3, c3⟩ := nMul_e hk hA hA h0 h0 D2 (by omega) (by omega)
  obtain ⟨ab, a4, b4, c4⟩ := nMul_e hk hA hB h0 h0 D2 (by omega) (by omega)
  obtain ⟨ba, a5, b5, c5⟩ := nMul_e hk hB hA h0 h0 D2 (by omega) (by omega)
  obtain ⟨bb, a6, b6, c6⟩ := nMul_e hk hB hB h0 h0 D2 (by omega) (by omega)
  have hba : ba = ab := funext ((a4.eq hmon (a5.congr fun k => Q.cf_comm B A k)) · |>.symm)
  subst hba
  obtain ⟨two, a7, b7, c7⟩ := nAdd_e hk b4 b4 h2 D2 (by omega)
  obtain ⟨s1, a8, b8, c8⟩ := nAdd_e hk (b3.mono (show _ ≤ 2000 by omega)) (b7.mono (show _ ≤ 2000 by omega)) h2 D2 (by omega)
  obtain ⟨s2, a9, b9, c9⟩ := nAdd_e hk (b8.mono (show _ ≤ 3000 by omega)) (b6.mono (show _ ≤ 3000 by omega)) h2 D2 (by omega)
  have hsq := Q.square_sum hmon (hA.fin.mono hA.len) (hB.fin.mono hB.len) a1 a2 a3 a4 a5 a6 a7 a8 a9
  have es : s2 = sq := funext fun k => (hsq.1 k).symm
  subst es
  obtain ⟨m1, m2⟩ := nMult_e hk hA h0 D1 (by omega)
  obtain ⟨m3, m4⟩ := nMult_e hk hB h0 D1 (by omega)
  obtain ⟨m5, m6⟩ := nMult_e hk b4 h2 D2 (by omega)
  have hx : (mrow d f ba) = fun r => sumR (mrow d f A r) (mrow d f B) d := funext fun i => funext fun j =>
    Q.matrix_mul hmon (hB.fin.mono hB.len) (Q.red_rm hmon (Q.xp_fin 1)) (mrow_rm hmon hA.fin) (mrow_rm hmon hB.fin) a4 (mrow_rm hmon b4.fin) i j
  have l1 : ∀ i j, i < d → j < d → qlen (mrow d f A i j) ≤ 65535 := fun i j hi _ => bd_doc (m1 i j (by omega)) h0 D4 (by omega)
  have l2 : ∀ i j, i < d → j < d → qlen (mrow d f B i j) ≤ 65535 := fun i j hi _ => bd_doc (m3 i j (by omega)) h0 D4 (by omega)
  have l3 : ∀ r i j, r < d → i ≤ d → j < d → qlen (sumR (mrow d f A r) (mrow d f B) i j) ≤ 65535 := fun r i j hr hi hj => by
    have hs : Bd (D * D) (i * 2 ^ 20000) (sumR (mrow d f A r) (mrow d f B) i j) := by
      have e : sumR (mrow d f A r) (mrow d f B) i j = Q.su (fun a => if a < i then mrow d f A r a * mrow d f B a j else 0) i := Q.su_congr fun a ha => (if_pos ha).symm
      rw [e]
      refine su_bd (fun a => ?_) i
      split
      · refine ((m1 r a (by omega)).mul (m3 a j (by omega))).mono ?_
        rw [← Nat.pow_add]
        exact pow_le2 (b := 20000) (by omega)
      · exact Bd.zero _ _
    exact bd_doc (e := 20004) (hs.mono (mul_le_pow (a := 4) (b := 20000) (c := 20004) (by omega) (Nat.le_refl _) (by decide))) h2 D3 (by decide)
  have mm := rmatmul_ok (n := d) (k := d) (m := d) (by omega) (by omega) (by omega) l1 l2 l3
  rw [← hx] at mm
  have l4 : ∀ i j, i < d → j < d → qlen (mrow d f ba i j) ≤ 524286 := fun i j hi _ => Nat.le_trans (bd_doc (m5 i j (by omega)) h2 D3 (by omega)) (by decide)
  refine ⟨_, _, _, _, _, _, _, one, s2, aa, ba, bb, two, s1, _, _, _, hlow, ⟨c1, c2, c3, c4, c5, c6, c7, c8, c9, m2, m4, m6, ?_, ?_, mm.weak, (sameMat_n (by omega) (by omega) l4).weak⟩⟩
  · exact (same14_n (Nat.le_trans (Q.tq_le _ _) (by omega)) fun i _ => Nat.le_trans (bd_doc (b2.bd i) h2 D3 (by omega)) (by decide)).weak
  · exact (same14_n (Nat.le_trans (Q.tq_le _ _) (by omega)) fun i _ => Nat.le_trans (bd_doc (b4.bd i) h2 D3 (by omega)) (by decide)).weak
end Rf
end Go.Proofs.YtnoecgnhepppkaaGreat
