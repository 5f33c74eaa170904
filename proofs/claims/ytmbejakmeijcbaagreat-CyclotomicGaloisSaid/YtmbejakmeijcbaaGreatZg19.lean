/- The law CyclotomicGalois over abstract arguments. -/
import Derived.Test.YtmbejakmeijcbaaGreatZg18
namespace Go.Proofs.YtmbejakmeijcbaaGreat
open Go.RowKit
namespace Rf
set_option maxHeartbeats 4000000 in
theorem conj_of {n d N L : Nat} {q : Nat → RawR} {v : Nat → Rat} (h : FnOK Tryz.prog true 24 [.c (.int .i64 n), .c (.int .i64 (-1)), .c (ql N q)] (.t2 (.c (nql L v)) (.c (.int .i64 0)))) (_ : d = d) : FnOK Tryz.prog true 25 [.c (.int .i64 n), .c (ql N q)] (.t2 (.c (nql L v)) (.c (.int .i64 0))) := by
 refine fn_ok (E := E1) E1_ok Tryz.func25 rfl mixed (by kernel_rfl) (by kernel_rfl) ?_
 conv => whnf
 refine ⟨_, h, ?_⟩
 conv => whnf
 exact ⟨rfl, Sub.refl _⟩
set_option maxHeartbeats 4000000 in
theorem galois_out {n t s x : Int} {NA NB : Nat} {qA qB : Nat → RawR} (hw : FnOK Tryz.prog true 10 [] (.c (.bool true))) (hf : FnOK Tryz.prog true 11 [.c (.int .i64 n)] (.c (.int .i64 x))) (hx : x ≠ 0) : FnOK Tryz.prog true 5 [.g [.int .i64 n, .int .i64 t, .int .i64 s, ql NA qA, ql NB qB]] (.c (.bool true)) := by
 refine fn_ok (E := E1t) E1t_ok Tryz.func5 rfl mixed (by kernel_rfl) (by kernel_rfl) ?_
 conv => whnf
 refine ⟨_, hw, ?_⟩
 conv => whnf
 refine ⟨_, hf, ?_⟩
 conv => whnf
 refine bneg (show gw false (!decide (x = 0)) = false by rw [decide_eq_false hx]; rfl) ?_
 conv => whnf
 exact ⟨rfl, Sub.refl _⟩
set_option maxHeartbeats 4000000 in
theorem galois_long {n t s : Int} {NA NB : Nat} {qA qB : Nat → RawR} (hw : FnOK Tryz.prog true 10 [] (.c (.bool true))) (hf : FnOK Tryz.prog true 11 [.c (.int .i64 n)] (.c (.int .i64 0))) (hs : FnOK Tryz.prog true 19 [.c (.row 1 2 (rowF 1 [ql NA qA, ql NB qB]))] (.c (.bool false))) : FnOK Tryz.prog true 5 [.g [.int .i64 n, .int .i64 t, .int .i64 s, ql NA qA, ql NB qB]] (.c (.bool true)) := by
 refine fn_ok (E := E1t) E1t_ok Tryz.func5 rfl mixed (by kernel_rfl) (by kernel_rfl) ?_
 conv => whnf
 refine ⟨_, hw, ?_⟩
 conv => whnf
 refine ⟨_, hf, ?_⟩
 conv => whnf
 refine ⟨fun i j hi hj => ?_, ?_⟩
 ·match i, j, hi, hj with
  | 0, 0, _, _ => rfl
  | 1, 0, _, _ => rfl
 conv => whnf
 refine ⟨_, hs, ?_⟩
 conv => whnf
 exact ⟨rfl, Sub.refl _⟩
set_option maxHeartbeats 4000000 in
theorem galois_range {n t s : Int} {NA NB : Nat} {qA qB : Nat → RawR} (hw : FnOK Tryz.prog true 10 [] (.c (.bool true))) (hf : FnOK Tryz.prog true 11 [.c (.int .i64 n)] (.c (.int .i64 0))) (hs : FnOK Tryz.prog true 19 [.c (.row 1 2 (rowF 1 [ql NA qA, ql NB qB]))] (.c (.bool true))) (hr : ¬ ((-1073741824 ≤ t ∧ t ≤ 1073741824) ∧ -1073741824 ≤ s ∧ s ≤ 1073741824)) : FnOK Tryz.prog true 5 [.g [.int .i64 n, .int .i64 t, .int .i64 s, ql NA qA, ql NB qB]] (.c (.bool true)) := by
 refine fn_ok (E := E1t) E1t_ok Tryz.func5 rfl mixed (by kernel_rfl) (by kernel_rfl) ?_
 conv => whnf
 refine ⟨_, hw, ?_⟩
 conv => whnf
 refine ⟨_, hf, ?_⟩
 conv => whnf
 refine ⟨fun i j hi hj => ?_, ?_⟩
 ·match i, j, hi, hj with
  | 0, 0, _, _ => rfl
  | 1, 0, _, _ => rfl
 conv => whnf
 refine ⟨_, hs, ?_⟩
 conv => whnf
 refine bcase (fun (h1 : gw false (decide ((1073741824 : Int) < t)) = true) => ?_) fun (_ : gw false (decide ((1073741824 : Int) < t)) = false) => ?_
 rotate_left
 ·conv => whnf
  exact ⟨rfl, Sub.refl _⟩
 have h1 := of_decide_eq_false (gwf h1)
 conv => whnf
 refine bcase (fun (h2 : gw false (decide (t < (-1073741824 : Int))) = true) => ?_) fun (_ : gw false (decide (t < (-1073741824 : Int))) = false) => ?_
 rotate_left
 ·conv => whnf
  exact ⟨rfl, Sub.refl _⟩
 have h2 := of_decide_eq_false (gwf h2)
 conv => whnf
 refine bcase (fun (h3 : gw false (decide ((1073741824 : Int) < s)) = true) => ?_) fun (_ : gw false (decide ((1073741824 : Int) < s)) = false) => ?_
 rotate_left
 ·conv => whnf
  exact ⟨rfl, Sub.refl _⟩
 have h3 := of_decide_eq_false (gwf h3)
 conv => whnf
 refine bcase (fun (_ : decide (s < (-1073741824 : Int)) = true) => ?_) fun (h4 : decide (s < (-1073741824 : Int)) = false) => ?_
 ·conv => whnf
  exact ⟨rfl, Sub.refl _⟩
 have h4 := of_decide_eq_false h4
 exact (hr ⟨⟨by omega, by omega⟩, by omega, by omega⟩).elim
theorem nql_qx {d : Nat} {v : Nat → Rat} (h : Q.Fin d v) : Q.qx (Q.tq v d) (fun i => (ofR (v i)).val) = v := by
 rw [show (fun i => (ofR (v i)).val) = v from funext fun i => ofR_val _]
 exact Q.qx_self (Q.tq_fin h)
theorem same_self {d D e : Nat} {v : Nat → Rat} (hd : d ≤ 12) (h : ∀ i, Bd D (2 ^ e) (v i)) (h0 : 0 < D) (hD : D ≤ 2 ^ 100000) (he : e ≤ 100000) : FnOK Tryz.prog true 16 [.c (nql (Q.tq v d) v), .c (nql (Q.tq v d) v)] (.c (.bool true)) :=
 (same14_b (by have := Q.tq_le v d; omega) (fun i => Nat.le_trans (bd_doc (h i) h0 hD (by omega)) (by decide)) ⟨fun _ => ⟨rfl, fun _ _ => rfl⟩, fun _ => rfl⟩).weak
theorem wq_bd {D e : Nat} {x : Rat} (h : Bd D (2 ^ e) x) (h0 : 0 < D) (hD : D ≤ 2 ^ 100000) (he : e ≤ 100000) : wq (ofR x) :=
 wq_n (Nat.le_trans (bd_doc h h0 hD (by omega)) (by decide))
theorem cf_bd5 {D e n : Nat} {A B : Nat → Rat} (hn : n ≤ 32) (fA : Q.Fin n A) (bA : ∀ k, Bd D (2 ^ e) (A k)) (bB : ∀ k, Bd D (2 ^ e) (B k)) (k : Nat) : Bd (D * D) (2 ^ (e + e + 5)) (Q.cf A B k) := by
 refine (Q.cf_bd fA bA bB k).mono ?_
 rw [← Nat.pow_add, Nat.pow_add 2 (e + e) 5, Nat.mul_comm (2 ^ (e + e))]
 exact Nat.mul_le_mul_right _ (by omega)
structure Dn (D : Nat) : Prop where
 pos : 0 < D
 a : D ≤ 2 ^ 100000
 b : D ≤ 2 ^ 1000000
 aa : D * D ≤ 2 ^ 100000
 bb : D * D ≤ 2 ^ 1000000
 pp : 0 < D * D
set_option maxHeartbeats 4000000 in
theorem Cy.galois_yes {n d NA NB D e : Nat} {φ : List Int} {T : List (List Int)} (C : Cy n d φ T) {t s : Int} {qA qB : Nat → RawR} {A B : Nat → Rat} (hw : FnOK Tryz.prog false 10 [] (.c (.bool true))) (hs : FnOK Tryz.prog false 19 [.c (.row 1 2 (rowF 1 [ql NA qA, ql NB qB]))] (.c (.bool true))) (eA : Ev NA qA A D e) (eB : Ev NB qB B D e) (hNA : NA ≤ 16) (hNB : NB ≤ 16) (wA : ∀ i, i < NA → wq (qA i)) (wB : ∀ i, i < NB → wq (qB i)) (hD : Dn D) (he : e ≤ 5000) (ht : -1073741824 ≤ t ∧ t ≤ 1073741824) (hs1 : -1073741824 ≤ s ∧ s ≤ 1073741824) : FnOK Tryz.prog true 5 [.g [.int .i64 n, .int .i64 t, .int .i64 s, ql NA qA, ql NB qB]] (.c (.bool true)) := by
 have n1 := C.tab.n1
 have n2 := C.tab.n2
 have d2 := C.tab.d2
 have hw := hw.weak (r := true)
 have hs := hs.weak (r := true)
 have hf := C.fails.weak (r := true)
 obtain ⟨rA, hA⟩ := C.ex_rm eA.fin
 have bA := (nNormal_r C.fk eA.val (by omega) eA.fit eA.bd hD.pos hD.b (by omega) hA).1
 -- the conjugate
 have gc : Nat.gcd (rs (-1) n) n = 1 := by rw [rs_gcd _ n1]; exact Nat.gcd_one_left n
 have bC := im_bd C (t := rs (-1) n) (m := d) (by omega) bA
 have g2 := conj_of (d := d) (C.galois_ok (t := -1) eA hD.pos hD.b (by omega) hA gc) rfl
 have g3 := (C.rgalois_ok (t := -1) hNA eA.val wA eA.bd hD.pos hD.a (by omega)).weak (r := true)
 rw [C.gal_same gc eA.fin hA] at g3
 have s1 := same_self d2 bC hD.pos hD.a (by omega)
 have k1 := (rgcd_ok (a := t) (b := n) (by omega) (by omega)).weak (r := true)
 rw [Int.natAbs_natCast] at k1
 by_cases hg0 : Nat.gcd t.natAbs n = 1
 ·rw [hg0] at k1
  have hg : Nat.gcd (rs t n) n = 1 := by rw [rs_gcd _ n1]; exact hg0
  obtain ⟨rB, hB⟩ := C.ex_rm eB.fin
  obtain ⟨ab, hab⟩ := C.ex_rm (eA.fin.cf eB.fin)
  obtain ⟨sm, hsm⟩ := C.ex_rm ((eA.fin.mono (Nat.le_max_left NA NB)).add (eB.fin.mono (Nat.le_max_right NA NB)))
  have bB := (nNormal_r C.fk eB.val (by omega) eB.fit eB.bd hD.pos hD.b (by omega) hB).1
  have bSA := im_bd C (t := rs t n) (m := d) (by omega) bA
  have bSB := im_bd C (t := rs t n) (m := d) (by omega) bB
  have fSA := C.tab.im_fin (rs t n) d rA
  have fSB := C.tab.im_fin (rs t n) d rB
  have tA := Q.tq_le (Q.im n (rs t n) d T rA) d
  have tB := Q.tq_le (Q.im n (rs t n) d T rB) d
  have g1 := C.galois_ok eA hD.pos hD.b (by omega) hA hg
  have g4 := C.galois_ok eB hD.pos hD.b (by omega) hB hg
  have hF := C.rfield.weak (r := true)
  -- the product
  have bcf := cf_bd5 (by omega) eA.fin eA.bd eB.bd
  have fcf := eA.fin.cf eB.fin
  have bab := (nNormal_r C.fk (N := NA + NB) (q := fun i => ofR (Q.cf A B i)) (by rw [show (fun i => (ofR (Q.cf A B i)).val) = Q.cf A B from funext fun i => ofR_val _]; exact Q.qx_self fcf) (by omega) (fun i _ => ofR_fit (bd_fit (bcf i) hD.pp (le_lim hD.bb) (two_lt (by omega)))) bcf hD.pp hD.bb (by omega) hab).1
  have m1 := (C.fr.mul14 C.cbd eA.val eB.val (by omega) (by omega) wA wB eA.bd eB.bd hD.pos hD.pos hD.aa (by omega) (by omega) hab).weak (r := true)
  have evab := ev_n hab.1 d2 bab hD.pp hD.bb (by omega)
  have g5 := C.galois_ok evab hD.pp hD.bb (by omega) (Q.Rm.self hab.1) hg
  have bP := im_bd C (t := rs t n) (m := d) (by omega) bab
  -- the sum
  have bs := fun k => bd_two (eA.bd k) (eB.bd k)
  have fs := (eA.fin.mono (Nat.le_max_left NA NB)).add (eB.fin.mono (Nat.le_max_right NA NB))
  have bsm := (nNormal_r C.fk (N := max NA NB) (q := fun i => ofR (A i + B i)) (by rw [show (fun i => (ofR (A i + B i)).val) = fun i => A i + B i from funext fun i => ofR_val _]; exact Q.qx_self fs) (by omega) (fun i _ => ofR_fit (bd_fit (bs i) hD.pos (le_lim hD.b) (two_lt (by omega)))) bs hD.pos hD.b (by omega) hsm).1
  have a1 := (C.fr.add14 C.cbd eA.val eB.val (by omega) (by omega) wA wB eA.bd eB.bd hD.pos hD.a (by omega) hsm).weak (r := true)
  have evsm := ev_n hsm.1 d2 bsm hD.pos hD.b (by omega)
  have g6 := C.galois_ok evsm hD.pos hD.b (by omega) (Q.Rm.self hsm.1) hg
  have bS := im_bd C (t := rs t n) (m := d) (by omega) bsm
  -- the document's
  have g7 := (C.rgalois_ok (t := t) hNA eA.val wA eA.bd hD.pos hD.a (by omega)).weak (r := true)
  rw [C.gal_same hg eA.fin hA] at g7
  have s2 := same_self d2 bSA hD.pos hD.a (by omega)
  have m2 := (C.fr.mul14 C.cbd (nql_qx fSA) (nql_qx fSB) (by omega) (by omega) (fun i _ => wq_bd (bSA i) hD.pos hD.a (by omega)) (fun i _ => wq_bd (bSB i) hD.pos hD.a (by omega)) bSA bSB hD.pos hD.pos hD.aa (by omega) (by omega) (C.gal_mul hg eA.fin eB.fin hA hB hab)).weak (r := true)
  have s3 := same_self d2 bP hD.pp hD.aa (by omega)
  have a2 := (C.fr.add14 C.cbd (nql_qx fSA) (nql_qx fSB) (by omega) (by omega) (fun i _ => wq_bd (bSA i) hD.pos hD.a (by omega)) (fun i _ => wq_bd (bSB i) hD.pos hD.a (by omega)) bSA bSB hD.pos hD.a (by omega) (C.gal_add hg eA.fin eB.fin hA hB hsm)).weak (r := true)
  have s4 := same_self d2 bS hD.pos hD.a (by omega)
  have k2 := (rgcd_ok (a := s) (b := n) (by omega) (by omega)).weak (r := true)
  rw [Int.natAbs_natCast] at k2
  by_cases hh0 : Nat.gcd s.natAbs n = 1
  ·rw [hh0] at k2
   have hh : Nat.gcd (rs s n) n = 1 := by rw [rs_gcd _ n1]; exact hh0
   have evSA := ev_n fSA d2 bSA hD.pos hD.b (by omega)
   have g8 := C.galois_ok evSA hD.pos hD.b (by omega) (Q.Rm.self fSA) hh
   rw [C.gal_comp hh rA] at g8
   have hp : inR .i64 (s * t) := by
    have h1 : (s * t).natAbs ≤ 1073741824 * 1073741824 := by rw [Int.natAbs_mul]; exact Nat.mul_le_mul (by omega) (by omega)
    exact i64 (by omega) (by omega)
   have g9 := C.galois_ok (t := s * t) eA hD.pos hD.b (by omega) hA (gcd_mul_one n1 hh hg)
   have s5 := same_self d2 (im_bd C (t := rs (s * t) n) (m := d) (by omega) bA) hD.pos hD.a (by omega)
   exact galois_full hw hf hs ht hs1 g1 g2 g3 s1 k1 hF g4 m1 g5 a1 g6 g7 s2 m2 s3 a2 s4 k2 g8 hp g9 s5
  ·exact galois_nos hw hf hs ht hs1 g1 g2 g3 s1 k1 hF g4 m1 g5 a1 g6 g7 s2 m2 s3 a2 s4 k2 hh0
 ·have hg : Nat.gcd (rs t n) n ≠ 1 := by rw [rs_gcd _ n1]; exact hg0
  exact galois_not hw hf hs ht hs1 (C.galois_no hg) g2 g3 s1 k1 hg0
theorem dn15 {D : Nat} (h0 : 0 < D) (h : D ≤ 2 ^ (32 * 32)) : Dn D :=
 ⟨h0, le_pow (a := 32 * 32) (b := 100000) h (by decide), le_pow (a := 32 * 32) (b := 1000000) h (by decide), le_pow (a := 2048) (b := 100000) (mul_le_pow (a := 32 * 32) (b := 32 * 32) (c := 2048) h h rfl) (by decide), le_pow (a := 2048) (b := 1000000) (mul_le_pow (a := 32 * 32) (b := 32 * 32) (c := 2048) h h rfl) (by decide), Nat.mul_pos h0 h0⟩
open Classical in
theorem Cy.galois_all {n d NA NB : Nat} {φ : List Int} {T : List (List Int)} (C : Cy n d φ T) {t s : Int} {qA qB : Nat → RawR} (hw : FnOK Tryz.prog false 10 [] (.c (.bool true))) (hA : ∀ j, j < NA → dgq (qA j)) (hB : ∀ j, j < NB → dgq (qB j)) : FnOK Tryz.prog true 5 [.g [.int .i64 n, .int .i64 t, .int .i64 s, ql NA qA, ql NB qB]] (.c (.bool true)) := by
 have hs := short15_two (n := NA) (m := NB) (q := qA) (p := qB) (r := decide ((NA ≤ 16 ∧ ∀ j, j < NA → okd (qA j)) ∧ NB ≤ 16 ∧ ∀ j, j < NB → okd (qB j))) decide_eq_true_iff
 by_cases h : (NA ≤ 16 ∧ ∀ j, j < NA → okd (qA j)) ∧ NB ≤ 16 ∧ ∀ j, j < NB → okd (qB j)
 ·rw [decide_eq_true h] at hs
  by_cases hr : (-1073741824 ≤ t ∧ t ≤ 1073741824) ∧ -1073741824 ≤ s ∧ s ≤ 1073741824
  ·obtain ⟨D, d0, d1, eA, eB⟩ := pair15 hA hB h.1.1 h.2.1 h.1.2 h.2.2
   exact C.galois_yes hw hs eA eB h.1.1 h.2.1 (fun i hi => okd_wq (hA i hi) (h.1.2 i hi)) (fun i hi => okd_wq (hB i hi) (h.2.2 i hi)) (dn15 d0 d1) (by decide) hr.1 hr.2
  ·exact galois_range hw.weak C.fails.weak hs.weak hr
 ·rw [decide_eq_false h] at hs
  exact galois_long hw.weak C.fails.weak hs.weak
end Rf
end Go.Proofs.YtmbejakmeijcbaaGreat
