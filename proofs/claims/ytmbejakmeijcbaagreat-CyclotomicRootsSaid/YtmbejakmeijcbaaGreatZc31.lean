/- The law CyclotomicRoots over abstract arguments; elements that the laws' test lets by. -/
import Derived.Test.YtmbejakmeijcbaaGreatZc15
import Derived.Test.YtmbejakmeijcbaaGreatZc30
namespace Go.Proofs.YtmbejakmeijcbaaGreat
open Go.RowKit
namespace Rf
theorem okd_small {a : RawR} (h : dgq a) (h' : okd a) : a.val.den ≤ 4294967296 ∧ a.val.num.natAbs ≤ 4294967296 := by
  have f : a.Fit 1 := ⟨h.1, h.2, h'.1, h'.2⟩
  have hz := lenZ (f.qlen (Nat.le_refl _))
  have h1 := zlen_lt a.val.num
  have h2 := zlen_lt (a.val.den : Int)
  have p : ∀ z, z ≤ 1 → Dg.B ^ z ≤ 4294967296 := fun z hz => by
    match z, hz with
    | 0, _ => decide
    | 1, _ => decide
  have := p _ hz.1
  have := p _ hz.2
  have e : ((a.val.den : Int)).natAbs = a.val.den := Int.natAbs_natCast _
  omega
theorem okd_wq {a : RawR} (h : dgq a) (h' : okd a) : wq a := by
  have f : a.Fit 1 := ⟨h.1, h.2, h'.1, h'.2⟩
  have z1 := f.zn
  have z2 := f.zd
  exact ⟨⟨⟨h.1, by have := h'.1; omega⟩, ⟨h.2, by have := h'.2; omega⟩⟩, by omega, by omega⟩
theorem qx_small15 {n : Nat} {q : Nat → RawR} (hq : ∀ j, j < n → dgq (q j)) (h : ∀ j, j < n → okd (q j)) (i : Nat) : (Q.qx n (fun i => (q i).val) i).den ≤ 4294967296 ∧ (Q.qx n (fun i => (q i).val) i).num.natAbs ≤ 4294967296 := by
  unfold Q.qx
  split
  · rename_i hi
    exact okd_small (hq i hi) (h i hi)
  · exact ⟨by decide, by decide⟩
theorem pow_words (k : Nat) : 4294967296 ^ k = 2 ^ (32 * k) := by
  rw [show (4294967296 : Nat) = 2 ^ 32 from rfl, ← Nat.pow_mul]
theorem pow_word_succ (k : Nat) : 4294967296 * 4294967296 ^ k = 2 ^ (32 * (k + 1)) := by rw [← pow_words, Nat.pow_succ, Nat.mul_comm]
/-- Two elements that the laws' test lets by, over one denominator. -/
theorem pair15 {n m : Nat} {q p : Nat → RawR} (hq : ∀ j, j < n → dgq (q j)) (hp : ∀ j, j < m → dgq (p j)) (hn : n ≤ 16) (hm : m ≤ 16) (oq : ∀ j, j < n → okd (q j)) (op : ∀ j, j < m → okd (p j)) : ∃ D, 0 < D ∧ D ≤ 2 ^ (32 * 32) ∧ Ev n q (Q.qx n fun i => (q i).val) D (32 * (32 + 1)) ∧ Ev m p (Q.qx m fun i => (p i).val) D (32 * (32 + 1)) := by
  have fq : Q.Fin 16 (Q.qx n fun i => (q i).val) := (Q.qx_fin _ _).mono hn
  have fp : Q.Fin 16 (Q.qx m fun i => (p i).val) := (Q.qx_fin _ _).mono hm
  have tq := qx_small15 hq oq
  have tp := qx_small15 hp op
  have eq : ∀ i, i < n → (q i).Fit KD := fun i hi => ⟨(hq i hi).1, (hq i hi).2, Nat.le_trans (oq i hi).1 (by decide), Nat.le_trans (oq i hi).2 (by decide)⟩
  have ep : ∀ i, i < m → (p i).Fit KD := fun i hi => ⟨(hp i hi).1, (hp i hi).2, Nat.le_trans (op i hi).1 (by decide), Nat.le_trans (op i hi).2 (by decide)⟩
  obtain ⟨D, d0, d1, d2⟩ := Q.common 4294967296 (by decide) (fun i => if i < 16 then Q.qx n (fun i => (q i).val) i else Q.qx m (fun i => (p i).val) (i - 16)) 32 fun i _ => by
    show (if i < 16 then Q.qx n (fun i => (q i).val) i else Q.qx m (fun i => (p i).val) (i - 16)).den ≤ 4294967296 ∧ (if i < 16 then Q.qx n (fun i => (q i).val) i else Q.qx m (fun i => (p i).val) (i - 16)).num.natAbs ≤ 4294967296
    split
    · exact tq i
    · exact tp (i - 16)
  have e1 := pow_words 32
  have e2 := pow_word_succ 32
  rw [e1] at d1
  rw [e2] at d2
  refine ⟨D, d0, d1, ⟨rfl, by omega, eq, fun k => ?_⟩, ⟨rfl, by omega, ep, fun k => ?_⟩⟩
  · rcases Nat.lt_or_ge k 16 with a | a
    · have := d2 k (by omega)
      rwa [if_pos a] at this
    · rw [fq k a]; exact Bd.zero _ _
  · rcases Nat.lt_or_ge k 16 with a | a
    · have := d2 (k + 16) (by omega)
      rwa [if_neg (by omega), show k + 16 - 16 = k by omega] at this
    · rw [fp k a]; exact Bd.zero _ _
theorem least {P : Nat → Prop} (h : ∃ k, P k) : ∃ k, P k ∧ ∀ i, i < k → ¬ P i := by
  obtain ⟨k, hk⟩ := h
  induction k using Nat.strongRecOn with
  | ind k ih =>
    by_cases c : ∃ i, i < k ∧ P i
    · obtain ⟨i, hi, hp⟩ := c
      exact ih i hi hp
    · exact ⟨k, hk, fun i hi hp => c ⟨i, hi, hp⟩⟩
/-- Whether an element is a power of the root of unity, and which. -/
theorem root_is (n : Nat) (T : List (List Int)) (r : Nat → Rat) : ∃ (K : Int) (b : Bool), (∃ k : Nat, K = k ∧ b = true ∧ k < n ∧ hit n T r k ∧ ∀ i, i < k → ¬ hit n T r i) ∨ K = 0 ∧ b = false ∧ ∀ i, i < n → ¬ hit n T r i := by
  by_cases h : ∃ k, k < n ∧ hit n T r k
  · obtain ⟨k, ⟨h1, h2⟩, h3⟩ := least h
    exact ⟨k, true, .inl ⟨k, rfl, rfl, h1, h2, fun i hi hh => h3 i hi ⟨by omega, hh⟩⟩⟩
  · exact ⟨0, false, .inr ⟨rfl, rfl, fun i hi hh => h ⟨i, hi, hh⟩⟩⟩
set_option maxHeartbeats 8000000 in
theorem roots_out {n x : Int} {N : Nat} {q : Nat → RawR} (hw : FnOK Tryz.prog false 10 [] (.c (.bool true))) (hf : FnOK Tryz.prog false 11 [.c (.int .i64 n)] (.c (.int .i64 x))) (hx : x ≠ 0) : FnOK Tryz.prog true 4 [.c (.int .i64 n), .c (ql N q)] (.c (.bool true)) := by
  have hw := hw.weak (r := true)
  have hf := hf.weak (r := true)
  refine fn_ok (E := E1e) E1e_ok Tryz.func4 rfl mixed (by kernel_rfl) (by kernel_rfl) ?_
  conv => whnf
  refine ⟨_, hw, ?_⟩
  conv => whnf
  refine ⟨_, hf, ?_⟩
  conv => whnf
  refine bneg (show gw false (!decide (x = 0)) = false by rw [decide_eq_false hx]; rfl) ?_
  conv => whnf
  exact ⟨rfl, Sub.refl _⟩
set_option maxHeartbeats 8000000 in
theorem Cy.roots_long {n d N : Nat} {q : Nat → RawR} {φ : List Int} {T : List (List Int)} (C : Cy n d φ T) (hw : FnOK Tryz.prog false 10 [] (.c (.bool true))) (hs : FnOK Tryz.prog false 19 [.c (.row 1 1 (rowF 1 [ql N q]))] (.c (.bool false))) : FnOK Tryz.prog true 4 [.c (.int .i64 n), .c (ql N q)] (.c (.bool true)) := by
  have n2 := C.tab.n2
  have hw := hw.weak (r := true)
  have hs := hs.weak (r := true)
  have hf := C.fails.weak (r := true)
  refine fn_ok (E := E1e) E1e_ok Tryz.func4 rfl mixed (by kernel_rfl) (by kernel_rfl) ?_
  conv => whnf
  refine ⟨_, hw, ?_⟩
  conv => whnf
  refine ⟨_, hf, ?_⟩
  conv => whnf
  refine bpos (show gw false (decide ((42 : Int) < n)) = true by rw [decide_eq_false (by omega)]; rfl) ?_
  conv => whnf
  refine ⟨fun i j hi hj => ?_, ?_⟩
  · match i, j, hi, hj with
    | 0, 0, _, _ => rfl
  conv => whnf
  refine ⟨_, hs, ?_⟩
  conv => whnf
  exact ⟨rfl, Sub.refl _⟩
set_option maxHeartbeats 8000000 in
theorem Cy.roots_law {n d N D e : Nat} {q : Nat → RawR} {φ : List Int} {T : List (List Int)} (C : Cy n d φ T) {A : Nat → Rat} (hw : FnOK Tryz.prog false 10 [] (.c (.bool true))) (hs : FnOK Tryz.prog false 19 [.c (.row 1 1 (rowF 1 [ql N q]))] (.c (.bool true))) (hA : Ev N q A D e) (hq : ∀ i, i < N → wq (q i)) (h0 : 0 < D) (hD : D ≤ 2 ^ 100000) (hD2 : D ≤ 2 ^ 1000000) (he : e ≤ 40000) : FnOK Tryz.prog true 4 [.c (.int .i64 n), .c (ql N q)] (.c (.bool true)) := by
  have n2 := C.tab.n2
  have hN := hA.len
  have hr : Q.Rm d (Q.fr φ) A _ := Q.dvs_rm C.tab.mon (N := N) (hA.fin.mono (by omega))
  generalize Q.dvs d (Q.fr φ) N A N = r at hr
  have hb := (nNormal_r C.fk hA.val (by omega) hA.fit hA.bd h0 hD2 (by omega) hr).1
  have hb2 : ∀ k, qlen (r k) ≤ 524286 := fun k => Nat.le_trans (bd_doc (hb k) h0 hD (by omega)) (by decide)
  obtain ⟨K, b, hK⟩ := root_is n T r
  have p1 := C.root_ok hA h0 hD2 he hr hK
  have d1 := (C.rroot_ok hA.val (by omega) hq hA.bd hb2 h0 hD he hr hK).weak (r := true)
  have hw := hw.weak (r := true)
  have hs := hs.weak (r := true)
  have hf := C.fails.weak (r := true)
  by_cases hz : ∀ j, 1 ≤ j → r j = 0
  · have p2 := C.rat_yes hA h0 hD2 he hr hz
    have d2 := (C.rrat_ok (X := nq (r 0)) (b := true) hA.val (by omega) hq hA.bd hb2 h0 hD he hr (.inl ⟨hz, rfl, rfl⟩)).weak (r := true)
    have s2 := (rqsame_n (x := r 0) (y := r 0) (hb2 0)).weak (r := true)
    rw [decide_eq_true rfl] at s2
    clear hK hb hb2 hr hA hq C
    generalize r 0 = x at *
    refine fn_ok (E := E1e) E1e_ok Tryz.func4 rfl mixed (by kernel_rfl) (by kernel_rfl) ?_
    conv => whnf
    refine ⟨_, hw, ?_⟩
    conv => whnf
    refine ⟨_, hf, ?_⟩
    conv => whnf
    refine bpos (show gw false (decide ((42 : Int) < n)) = true by rw [decide_eq_false (by omega)]; rfl) ?_
    conv => whnf
    refine ⟨fun i j hi hj => ?_, ?_⟩
    · match i, j, hi, hj with
      | 0, 0, _, _ => rfl
    conv => whnf
    refine ⟨_, hs, ?_⟩
    conv => whnf
    refine ⟨_, p1, ?_⟩
    conv => whnf
    refine ⟨_, p2, ?_⟩
    conv => whnf
    refine ⟨_, d1, ?_⟩
    conv => whnf
    refine ⟨_, d2, ?_⟩
    conv => whnf
    refine bpos (show gw false (!decide (K = K)) = true by rw [decide_eq_true rfl]; rfl) ?_
    conv => whnf
    refine bpos (show gw false (!(b == b)) = true by cases b <;> rfl) ?_
    conv => whnf
    refine ⟨_, s2, ?_⟩
    conv => whnf
    exact ⟨rfl, Sub.refl _⟩
  · have p2 := C.rat_no hA h0 hD2 he hr hz
    have d2 := (C.rrat_ok (X := zcells) (b := false) hA.val (by omega) hq hA.bd hb2 h0 hD he hr (.inr ⟨hz, rfl, rfl⟩)).weak (r := true)
    clear hK hb hb2 hr hA hq C hz
    refine fn_ok (E := E1e) E1e_ok Tryz.func4 rfl mixed (by kernel_rfl) (by kernel_rfl) ?_
    conv => whnf
    refine ⟨_, hw, ?_⟩
    conv => whnf
    refine ⟨_, hf, ?_⟩
    conv => whnf
    refine bpos (show gw false (decide ((42 : Int) < n)) = true by rw [decide_eq_false (by omega)]; rfl) ?_
    conv => whnf
    refine ⟨fun i j hi hj => ?_, ?_⟩
    · match i, j, hi, hj with
      | 0, 0, _, _ => rfl
    conv => whnf
    refine ⟨_, hs, ?_⟩
    conv => whnf
    refine ⟨_, p1, ?_⟩
    conv => whnf
    refine ⟨_, p2, ?_⟩
    conv => whnf
    refine ⟨_, d1, ?_⟩
    conv => whnf
    refine ⟨_, d2, ?_⟩
    conv => whnf
    refine bpos (show gw false (!decide (K = K)) = true by rw [decide_eq_true rfl]; rfl) ?_
    conv => whnf
    refine bpos (show gw false (!(b == b)) = true by cases b <;> rfl) ?_
    conv => whnf
    refine ⟨i64 (by decide) (by decide), ?_⟩
    conv => whnf
    exact ⟨rfl, Sub.refl _⟩
open Classical in
theorem Cy.roots_all {n d N : Nat} {q : Nat → RawR} {φ : List Int} {T : List (List Int)} (C : Cy n d φ T) (hw : FnOK Tryz.prog false 10 [] (.c (.bool true))) (hq : ∀ j, j < N → dgq (q j)) : FnOK Tryz.prog true 4 [.c (.int .i64 n), .c (ql N q)] (.c (.bool true)) := by
  have hs := short15_one (n := N) (q := q) (r := decide (N ≤ 16 ∧ ∀ j, j < N → okd (q j))) decide_eq_true_iff
  by_cases h : N ≤ 16 ∧ ∀ j, j < N → okd (q j)
  · rw [decide_eq_true h] at hs
    obtain ⟨D, d0, d1, ev, _⟩ := pair15 hq hq h.1 h.1 h.2 h.2
    exact C.roots_law hw hs ev (fun i hi => okd_wq (hq i hi) (h.2 i hi)) d0 (le_pow (a := 32 * 32) (b := 100000) d1 (by decide)) (le_pow (a := 32 * 32) (b := 1000000) d1 (by decide)) (by decide)
  · rw [decide_eq_false h] at hs
    exact C.roots_long hw hs
end Rf
end Go.Proofs.YtmbejakmeijcbaaGreat
