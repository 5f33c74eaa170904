/- The law CyclotomicZetas over abstract arguments. -/
import Derived.Test.YtmbejakmeijcbaaGreatZc14
namespace Go.Proofs.YtmbejakmeijcbaaGreat
open Go.RowKit
namespace Rf
theorem Cy.one_rm {n d : Nat} {φ : List Int} {T : List (List Int)} (C : Cy n d φ T) (k : Int) : Q.Rm d (Q.fr φ) (Q.xp (rs k n)) (mn n T 1 k) :=
  (C.mn_rm 1 k).congr fun _ => Rat.one_mul _
theorem Cy.one_bd {n d : Nat} {φ : List Int} {T : List (List Int)} (C : Cy n d φ T) (k : Int) (j : Nat) : Bd 1 (2 ^ 8) (mn n T 1 k j) := by
  have h1 := (Bd.int 1).mul (C.bd (k % (n : Int)).toNat j)
  exact Bd.mono h1 (by decide)
/-- Exponents add up. -/
theorem Cy.zeta_mul {n d : Nat} {φ : List Int} {T : List (List Int)} (C : Cy n d φ T) (k l : Int) : Q.Rm d (Q.fr φ) (Q.cf (mn n T 1 k) (mn n T 1 l)) (mn n T 1 (k + l)) := by
  have hs : Q.Rm d (Q.fr φ) (Q.cf (mn n T 1 k) (mn n T 1 l)) _ := Q.dvs_rm C.tab.mon (N := d) ((C.mn_fin 1 k).cf (C.mn_fin 1 l))
  have h1 := (C.one_rm l).mul' (C.mn_fin 1 k) hs
  have h2 := (C.one_rm k).mul (Q.xp_fin (rs l n)) h1
  have h3 := h2.congr (p' := Q.xp (rs k n + rs l n)) fun j => Q.xp_add _ _ j
  have n1 := C.tab.n1
  have e : (rs k n + rs l n) % n = rs (k + l) n % n := by
    have a1 : ((rs k n : Nat) : Int) = k % n := by have := Int.emod_nonneg k (show (n : Int) ≠ 0 by omega); show (((k % (n : Int)).toNat : Nat) : Int) = _; omega
    have a2 : ((rs l n : Nat) : Int) = l % n := by have := Int.emod_nonneg l (show (n : Int) ≠ 0 by omega); show (((l % (n : Int)).toNat : Nat) : Int) = _; omega
    have a3 : ((rs (k + l) n : Nat) : Int) = (k + l) % n := by have := Int.emod_nonneg (k + l) (show (n : Int) ≠ 0 by omega); show ((((k + l) % (n : Int)).toNat : Nat) : Int) = _; omega
    have : (((rs k n + rs l n) % n : Nat) : Int) = ((rs (k + l) n % n : Nat) : Int) := by
      rw [Int.natCast_emod, Int.natCast_emod, Int.natCast_add, a1, a2, a3, Int.emod_emod_of_dvd _ (Int.dvd_refl _), ← Int.add_emod]
    omega
  have h4 := C.tab.per.mod e h3
  exact hs.trans_eq (h4.eq C.tab.mon (C.one_rm (k + l)))
theorem Cy.zeta_hit {n d : Nat} {φ : List Int} {T : List (List Int)} (C : Cy n d φ T) (k : Int) : hit n T (mn n T 1 k) (rs k n) ∧ ∀ i, i < rs k n → ¬ hit n T (mn n T 1 k) i := by
  have hK := rs_lt k C.tab.n1
  have e : ∀ i : Nat, i < n → ∀ j, mn n T 1 (i : Nat) j = 1 * Q.fr (Q.row T i) j := fun i hi j => by
    show 1 * Q.fr (Q.row T (((i : Nat) : Int) % (n : Int)).toNat) j = _
    rw [show (((i : Nat) : Int) % (n : Int)).toNat = i by rw [Int.emod_eq_of_lt (by omega) (by omega)]; omega]
  refine ⟨fun j => (e _ hK j).symm, fun i hi h => ?_⟩
  obtain ⟨p, hp⟩ := Q.dist_ok C.dist hK hi
  have h1 := h p
  rw [e i (by omega) p] at h1
  have h1 : 1 * Q.fr (Q.row T (rs k n)) p = 1 * Q.fr (Q.row T i) p := h1
  rw [Rat.one_mul, Rat.one_mul] at h1
  exact hp h1
set_option maxHeartbeats 8000000 in
theorem zetas_out {n k l x : Int} (hw : FnOK Tryz.prog false 10 [] (.c (.bool true))) (hf : FnOK Tryz.prog false 11 [.c (.int .i64 n)] (.c (.int .i64 x))) (hx : x ≠ 0) : FnOK Tryz.prog true 3 [.c (.int .i64 n), .c (.int .i64 k), .c (.int .i64 l)] (.c (.bool true)) := by
  have hw := hw.weak (r := true)
  have hf := hf.weak (r := true)
  refine fn_ok (E := E1) E1_ok Tryz.func3 rfl mixed (by kernel_rfl) (by kernel_rfl) ?_
  conv => whnf
  refine ⟨_, hw, ?_⟩
  conv => whnf
  refine ⟨_, hf, ?_⟩
  conv => whnf
  refine bneg (show gw false (!decide (x = 0)) = false by rw [decide_eq_false hx]; rfl) ?_
  conv => whnf
  exact ⟨rfl, Sub.refl _⟩
set_option maxHeartbeats 8000000 in
theorem Cy.zetas_law {n d : Nat} {φ : List Int} {T : List (List Int)} (C : Cy n d φ T) {k l : Int} (hw : FnOK Tryz.prog false 10 [] (.c (.bool true))) : FnOK Tryz.prog true 3 [.c (.int .i64 n), .c (.int .i64 k), .c (.int .i64 l)] (.c (.bool true)) := by
  classical
  have n1 := C.tab.n1
  have n2 := C.tab.n2
  have d2 := C.tab.d2
  have hw := hw.weak (r := true)
  have hf := C.fails.weak (r := true)
  have z1 := C.zeta_ok k
  have z2 := C.zeta_ok l
  have z3 := C.zeta_ok (k + l)
  have r1 := (C.rzeta_ok k).weak (r := true)
  have ev1 := ev_n (C.mn_fin 1 k) d2 (C.one_bd k) (by decide) (one_le_pow2 1000000) (by decide)
  have ro := C.root_ok (K := (rs k n : Nat)) (b := true) ev1 (by decide) (one_le_pow2 1000000) (by decide) (Q.Rm.self (C.mn_fin 1 k)) (.inl ⟨_, rfl, rfl, rs_lt k n1, (C.zeta_hit k).1, (C.zeta_hit k).2⟩)
  have hF := C.rfield.weak (r := true)
  have wq1 : ∀ k i, wq (ofR (mn n T 1 k i)) := fun k i => wq_n (Nat.le_trans (bd_doc (C.one_bd k i) (by decide) (one_le_pow2 100000) (by decide)) (by decide))
  have qv : ∀ k, Q.qx (Q.tq (mn n T 1 k) d) (fun i => (ofR (mn n T 1 k i)).val) = mn n T 1 k := fun k => by
    rw [show (fun i => (ofR (mn n T 1 k i)).val) = mn n T 1 k from funext fun i => ofR_val _]
    exact Q.qx_self (Q.tq_fin (C.mn_fin 1 k))
  have mu := (C.fr.mul14 (D := 1) (D' := 1) (a := 8) (b := 8) C.cbd (qv k) (qv l) (by have := Q.tq_le (mn n T 1 k) d; omega) (by have := Q.tq_le (mn n T 1 l) d; omega) (fun i _ => wq1 k i) (fun i _ => wq1 l i) (C.one_bd k) (C.one_bd l) (by decide) (by decide) (one_le_pow2 100000) (by decide) (by decide) (C.zeta_mul k l)).weak (r := true)
  have sm : ∀ k, FnOK Tryz.prog true 16 [.c (nql (Q.tq (mn n T 1 k) d) (mn n T 1 k)), .c (nql (Q.tq (mn n T 1 k) d) (mn n T 1 k))] (.c (.bool true)) := fun k => (same14_b (by have := Q.tq_le (mn n T 1 k) d; omega) (fun i => Nat.le_trans (bd_doc (C.one_bd k i) (by decide) (one_le_pow2 100000) (by decide)) (by decide)) ⟨fun _ => ⟨rfl, fun _ _ => rfl⟩, fun _ => rfl⟩).weak
  have s1 := sm k
  have s2 := sm (k + l)
  have hm := (mod15_ok (t := k) n1 (by omega)).weak (r := true)
  clear sm wq1 qv ev1 C
  generalize mn n T 1 k = R1 at *
  generalize mn n T 1 l = R2 at *
  generalize mn n T 1 (k + l) = R3 at *
  generalize Q.tq R1 d = L1 at *
  generalize Q.tq R2 d = L2 at *
  generalize Q.tq R3 d = L3 at *
  generalize rs k n = K at *
  generalize Z.gl φ = P at *
  refine fn_ok (E := E1) E1_ok Tryz.func3 rfl mixed (by kernel_rfl) (by kernel_rfl) ?_
  conv => whnf
  refine ⟨_, hw, ?_⟩
  conv => whnf
  refine ⟨_, hf, ?_⟩
  conv => whnf
  refine bcase (fun (h1 : gw false (decide ((1152921504606846976 : Int) < k)) = true) => ?_) fun (_ : gw false (decide ((1152921504606846976 : Int) < k)) = false) => ?_
  rotate_left
  · conv => whnf
    exact ⟨rfl, Sub.refl _⟩
  have h1 := of_decide_eq_false (gwf h1)
  conv => whnf
  refine bcase (fun (h2 : gw false (decide (k < (-1152921504606846976 : Int))) = true) => ?_) fun (_ : gw false (decide (k < (-1152921504606846976 : Int))) = false) => ?_
  rotate_left
  · conv => whnf
    exact ⟨rfl, Sub.refl _⟩
  have h2 := of_decide_eq_false (gwf h2)
  conv => whnf
  refine bcase (fun (h3 : gw false (decide ((1152921504606846976 : Int) < l)) = true) => ?_) fun (_ : gw false (decide ((1152921504606846976 : Int) < l)) = false) => ?_
  rotate_left
  · conv => whnf
    exact ⟨rfl, Sub.refl _⟩
  have h3 := of_decide_eq_false (gwf h3)
  conv => whnf
  refine bcase (fun (_ : decide (l < (-1152921504606846976 : Int)) = true) => ?_) fun (h4 : decide (l < (-1152921504606846976 : Int)) = false) => ?_
  · conv => whnf
    exact ⟨rfl, Sub.refl _⟩
  have h4 := of_decide_eq_false h4
  conv => whnf
  refine ⟨_, z1, ?_⟩
  conv => whnf
  refine ⟨_, z2, ?_⟩
  conv => whnf
  refine ⟨i64 (by omega) (by omega), ?_⟩
  conv => whnf
  refine ⟨_, z3, ?_⟩
  conv => whnf
  refine ⟨_, ro, ?_⟩
  conv => whnf
  refine ⟨_, hF, ?_⟩
  conv => whnf
  refine ⟨_, mu, ?_⟩
  conv => whnf
  refine ⟨_, r1, ?_⟩
  conv => whnf
  refine ⟨_, s1, ?_⟩
  conv => whnf
  refine ⟨_, s2, ?_⟩
  conv => whnf
  refine ⟨_, hm, ?_⟩
  conv => whnf
  exact ⟨rfl, sub_bool (decide_eq_true rfl)⟩
end Rf
end Go.Proofs.YtmbejakmeijcbaaGreat
