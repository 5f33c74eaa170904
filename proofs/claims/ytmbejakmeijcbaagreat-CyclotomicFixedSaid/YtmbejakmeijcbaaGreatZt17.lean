/- The law CyclotomicFixed over abstract arguments. -/
import Derived.Test.YtmbejakmeijcbaaGreatZt15
import Derived.Test.YtmbejakmeijcbaaGreatZt16
namespace Go.Proofs.YtmbejakmeijcbaaGreat
open Go.RowKit
namespace Rf
set_option maxHeartbeats 4000000 in
theorem fixed_out {n x : Int} {N : Nat} {q : Nat → RawR} (hw : FnOK Tryz.prog true 10 [] (.c (.bool true))) (hf : FnOK Tryz.prog true 11 [.c (.int .i64 n)] (.c (.int .i64 x))) (hx : x ≠ 0) : FnOK Tryz.prog true 9 [.c (.int .i64 n), .c (ql N q)] (.c (.bool true)) := by
 refine fn_okS (E := E1e) E1e_ok Tryz.func9 rfl (by kernel_rfl) ?_
 refine swp_seq0 E1e_ok mixed (by kernel_rfl) ?_
 conv => whnf
 refine swp_seq0 E1e_ok mixed (by kernel_rfl) ?_
 conv => whnf
 refine ⟨_, hw, ?_⟩
 conv => whnf
 refine swp_of E1e_ok mixed (by kernel_rfl) ?_
 conv => whnf
 refine ⟨_, hf, ?_⟩
 conv => whnf
 refine bneg (show gw false (!decide (x = 0)) = false by rw [decide_eq_false hx]; rfl) ?_
 conv => whnf
 exact ⟨rfl, Sub.refl _⟩
set_option maxHeartbeats 4000000 in
theorem fixed_long {n : Int} {N : Nat} {q : Nat → RawR} (hw : FnOK Tryz.prog true 10 [] (.c (.bool true))) (hf : FnOK Tryz.prog true 11 [.c (.int .i64 n)] (.c (.int .i64 0))) (hs : FnOK Tryz.prog true 19 [.c (.row 1 1 (rowF 1 [ql N q]))] (.c (.bool false))) : FnOK Tryz.prog true 9 [.c (.int .i64 n), .c (ql N q)] (.c (.bool true)) := by
 refine fn_okS (E := E1e) E1e_ok Tryz.func9 rfl (by kernel_rfl) ?_
 refine swp_seq0 E1e_ok mixed (by kernel_rfl) ?_
 conv => whnf
 refine swp_seq0 E1e_ok mixed (by kernel_rfl) ?_
 conv => whnf
 refine ⟨_, hw, ?_⟩
 conv => whnf
 refine swp_of E1e_ok mixed (by kernel_rfl) ?_
 conv => whnf
 refine ⟨_, hf, ?_⟩
 conv => whnf
 refine ⟨fun i j hi hj => ?_, ?_⟩
 ·match i, j, hi, hj with
  | 0, 0, _, _ => rfl
 conv => whnf
 refine ⟨_, hs, ?_⟩
 conv => whnf
 exact ⟨rfl, Sub.refl _⟩
def fxs (g : Nat → Nat) (sm : Nat → Bool) : Nat → Bool
 | 0 => true
 | i + 1 => if g i = 1 then fxs g sm i && sm i else fxs g sm i
theorem fxs_iff {g : Nat → Nat} {sm : Nat → Bool} : ∀ k, fxs g sm k = true ↔ ∀ i, i < k → g i = 1 → sm i = true
 | 0 => ⟨fun _ _ h => absurd h (Nat.not_lt_zero _), fun _ => rfl⟩
 | k + 1 => by
  have ih := fxs_iff (g := g) (sm := sm) k
  show (if g k = 1 then fxs g sm k && sm k else fxs g sm k) = true ↔ _
  split
  ·rename_i h
   rw [Bool.and_eq_true, ih]
   refine ⟨fun a i hi hg => ?_, fun a => ⟨fun i hi hg => a i (by omega) hg, a k (by omega) h⟩⟩
   by_cases e : i = k
   ·rw [e]; exact a.2
   ·exact a.1 i (by omega) hg
  ·rename_i h
   rw [ih]
   refine ⟨fun a i hi hg => ?_, fun a i hi hg => a i (by omega) hg⟩
   by_cases e : i = k
   ·exact absurd (e ▸ hg) h
   ·exact a i (by omega) hg
theorem one14 {F : FuncId} {P X : V} {x : Rat} (h : FnOK Tryz.prog true F [P, .c (nql 1 fun j => if j = 0 then x else 0)] X) : FnOK Tryz.prog true F [P, .c (.row 4 1 (rowF 4 (nq x)))] X := arg_ok h fun D w vs h => by
 match vs, h with
 | [v0, v1], ⟨g0, g1, _⟩ =>
  refine ⟨g0, subRowG rfl (fun i j hi hj => ?_) D w v1 g1, trivial⟩
  match i, j, hi, hj with
  | 0, 0, _, _ => rfl
  | 0, 1, _, _ => rfl
  | 0, 2, _, _ => rfl
  | 0, 3, _, _ => rfl
open Classical in
set_option maxHeartbeats 4000000 in
theorem Cy.fixed_yes {n d N D e : Nat} {φ : List Int} {T : List (List Int)} (C : Cy n d φ T) {q : Nat → RawR} {A : Nat → Rat} (hw : FnOK Tryz.prog false 10 [] (.c (.bool true))) (hs : FnOK Tryz.prog false 19 [.c (.row 1 1 (rowF 1 [ql N q]))] (.c (.bool true))) (eA : Ev N q A D e) (hN : N ≤ 16) (wA : ∀ i, i < N → wq (q i)) (hD : Dn D) (he : e ≤ 5000) : FnOK Tryz.prog true 9 [.c (.int .i64 n), .c (ql N q)] (.c (.bool true)) := by
 have n1 := C.tab.n1
 have n2 := C.tab.n2
 have d1 := C.tab.d1
 have d2 := C.tab.d2
 obtain ⟨r, hA⟩ := C.ex_rm eA.fin
 have br := (nNormal_r C.fk eA.val (by omega) eA.fit eA.bd hD.pos hD.b (by omega) hA).1
 have bI := fun t => im_bd C (t := t) (m := d) (by omega) br
 have fI := fun t => C.tab.im_fin t d r
 have e0 : ∀ i : Nat, Q.im n (rs ((i : Int) + 1) n) d T r = Q.im n (i + 1) d T r := fun i => Q.im_mod (by
  have h := rs_int ((i : Int) + 1) n1
  have h2 : rs ((i : Int) + 1) n = (i + 1) % n := by
   have : (((i + 1) % n : Nat) : Int) = ((i : Int) + 1) % n := by rw [Int.natCast_emod]; rfl
   omega
  rw [h2, Nat.mod_mod])
 have hg : ∀ i : Nat, i < n → FnOK Tryz.prog true 27 [.c (.int .i64 ((i : Nat) + 1)), .c (.int .i64 n)] (.c (.int .i64 (Nat.gcd (i + 1) n : Nat))) := fun i hi => by
  have := (rgcd_ok (a := (i : Int) + 1) (b := n) (by omega) (by omega)).weak (r := true)
  rwa [show ((i : Int) + 1).natAbs = i + 1 by omega, Int.natAbs_natCast] at this
 have hG : ∀ i : Nat, i < n → Nat.gcd (i + 1) n = 1 → FnOK Tryz.prog true 24 [.c (.int .i64 n), .c (.int .i64 ((i : Nat) + 1)), .c (ql N q)] (.t2 (.c (nql (Q.tq (Q.im n (i + 1) d T r) d) (Q.im n (i + 1) d T r))) (.c (.int .i64 0))) := fun i hi h1 => by
  have := C.galois_ok (t := (i : Int) + 1) eA hD.pos hD.b (by omega) hA (by rw [rs_gcd _ n1, show ((i : Int) + 1).natAbs = i + 1 by omega]; exact h1)
  rwa [e0 i] at this
 have hm : ∀ i : Nat, FnOK Tryz.prog true 16 [.c (nql (Q.tq (Q.im n (i + 1) d T r) d) (Q.im n (i + 1) d T r)), .c (nql (Q.tq r d) r)] (.c (.bool (decide (∀ j, Q.im n (i + 1) d T r j = r j)))) := fun i =>
  (same14_e (fI (i + 1)) hA.1 (by omega) fun j => Nat.le_trans (bd_doc (bI (i + 1) j) hD.pos hD.a (by omega)) (by decide)).weak
 have hO := (C.fr.normal14 C.cbd eA.val (by omega) wA eA.bd hD.pos hD.a (by omega) hA).weak (r := true)
 -- the sums
 have b0 : ∀ j i, Bd D (2 ^ (e + 512 + 12)) (Q.im0 n d T r j i) := fun j i => by
  unfold Q.im0
  split
  ·exact bI (i + 1) j
  ·exact Bd.zero _ _
 have bS : ∀ i, i ≤ n → ∀ j, Bd D (2 ^ (e + 512 + 12 + 6)) (Q.su (Q.im0 n d T r j) i) := fun i hi j => by
  refine (su_bd (b0 j) i).mono ?_
  rw [Nat.pow_add 2 (e + 512 + 12) 6, Nat.mul_comm (2 ^ (e + 512 + 12))]
  exact Nat.mul_le_mul_right _ (by omega)
 have fS : ∀ i, Q.Fin d (fun j => Q.su (Q.im0 n d T r j) i) := fun i j hj => Q.su_zero fun t _ => by
  unfold Q.im0
  split
  ·exact fI (t + 1) j hj
  ·rfl
 have step : ∀ i, Nat.gcd (i + 1) n = 1 → (fun j => Q.su (Q.im0 n d T r j) (i + 1)) = fun j => Q.su (Q.im0 n d T r j) i + Q.im n (i + 1) d T r j := fun i h => funext fun j => by
  show Q.su (Q.im0 n d T r j) i + Q.im0 n d T r j i = _
  rw [show Q.im0 n d T r j i = Q.im n (i + 1) d T r j from if_pos h]
 have ha : ∀ i, i < n → Nat.gcd (i + 1) n = 1 → FnOK Tryz.prog true 28 [.g [nl (d + 1) (Z.gl φ)], .c (nql (Q.tq (fun j => Q.su (Q.im0 n d T r j) i) d) (fun j => Q.su (Q.im0 n d T r j) i)), .c (nql (Q.tq (Q.im n (i + 1) d T r) d) (Q.im n (i + 1) d T r))] (.c (nql (Q.tq (fun j => Q.su (Q.im0 n d T r j) (i + 1)) d) (fun j => Q.su (Q.im0 n d T r j) (i + 1)))) := fun i hi h => by
  have tA := Q.tq_le (fun j => Q.su (Q.im0 n d T r j) i) d
  have tB := Q.tq_le (Q.im n (i + 1) d T r) d
  have bB : ∀ j, Bd D (2 ^ (e + 512 + 12 + 6)) (Q.im n (i + 1) d T r j) := fun j => (bI (i + 1) j).mono (pow_le2 (by omega))
  exact (C.fr.add14 C.cbd (nql_qx (fS i)) (nql_qx (fI (i + 1))) (by omega) (by omega) (fun k _ => wq_bd (bS i (by omega) k) hD.pos hD.a (by omega)) (fun k _ => wq_bd (bB k) hD.pos hD.a (by omega)) (bS i (by omega)) bB hD.pos hD.a (by omega) (by rw [← step i h]; exact Q.Rm.self (fS (i + 1)))).weak
 have hS : ∀ i, i < n → Nat.gcd (i + 1) n ≠ 1 → (fun j => Q.su (Q.im0 n d T r j) (i + 1)) = fun j => Q.su (Q.im0 n d T r j) i := fun i _ h => funext fun j => by
  show Q.su (Q.im0 n d T r j) i + Q.im0 n d T r j i = _
  rw [show Q.im0 n d T r j i = 0 from if_neg h, Rat.add_zero]
 have z0 : Q.tq (fun j => Q.su (Q.im0 n d T r j) 0) d = 0 := tq_zero (fun _ => rfl) d
 -- the trace
 have hT := C.trace_ok eA hD.pos hD.b (by omega)
 have hgx := Q.red_rm C.fk.fd.mon (Q.xp_fin 1)
 have hmr := mrow_rm C.fk.fd.mon eA.fin
 have t1 := C.tab.trace eA.fin hgx hmr
 have t2 := C.tab.trace hA.1 hgx ⟨(Q.Rm.self hA.1).trans_eq (hA.eq C.tab.mon hmr.first), hmr.next⟩
 have et : Q.dg n d N T A = Q.dg n d d T r := by rw [← t1, ← t2]
 rw [et] at hT
 have sumE : (fun j => Q.su (Q.im0 n d T r j) n) = fun j => if j = 0 then Q.dg n d d T r else 0 := funext fun j => C.tab.sum C.sum j
 have fw : Q.Fin d (fun j => if j = 0 then Q.dg n d d T r else 0) := by rw [← sumE]; exact fS n
 have bw : ∀ j, Bd D (2 ^ (e + 512 + 12 + 6)) ((fun j => if j = 0 then Q.dg n d d T r else 0) j) := by rw [← sumE]; exact bS n (Nat.le_refl _)
 have hW := one14 (C.fr.normal14 C.cbd (A := fun j => if j = 0 then Q.dg n d d T r else 0) (q := fun i => ofR ((fun j => if j = 0 then Q.dg n d d T r else 0) i)) (n := 1) (by
  rw [show (fun i => (ofR ((fun j => if j = 0 then Q.dg n d d T r else 0) i)).val) = fun j => if j = 0 then Q.dg n d d T r else 0 from funext fun i => ofR_val _]
  exact Q.qx_self fun j hj => if_neg (by omega)) (by decide) (fun k _ => wq_bd (bw k) hD.pos hD.a (by omega)) bw hD.pos hD.a (by omega) (Q.Rm.self fw)).weak
 have hE := same_self d2 bw hD.pos hD.a (by omega)
 -- rational or not
 have f1 : ∀ i, i < n → Nat.gcd (i + 1) n = 1 → fxs (fun i => Nat.gcd (i + 1) n) (fun i => decide (∀ j, Q.im n (i + 1) d T r j = r j)) i = true → decide (∀ j, Q.im n (i + 1) d T r j = r j) = fxs (fun i => Nat.gcd (i + 1) n) (fun i => decide (∀ j, Q.im n (i + 1) d T r j = r j)) (i + 1) := fun i _ h h' => by
  show _ = if Nat.gcd (i + 1) n = 1 then _ && _ else _
  rw [if_pos h, h', Bool.true_and]
 have f2 : ∀ i, i < n → Nat.gcd (i + 1) n = 1 → fxs (fun i => Nat.gcd (i + 1) n) (fun i => decide (∀ j, Q.im n (i + 1) d T r j = r j)) i = false → false = fxs (fun i => Nat.gcd (i + 1) n) (fun i => decide (∀ j, Q.im n (i + 1) d T r j = r j)) (i + 1) := fun i _ h h' => by
  show _ = if Nat.gcd (i + 1) n = 1 then _ && _ else _
  rw [if_pos h, h', Bool.false_and]
 have f3 : ∀ i, i < n → Nat.gcd (i + 1) n ≠ 1 → fxs (fun i => Nat.gcd (i + 1) n) (fun i => decide (∀ j, Q.im n (i + 1) d T r j = r j)) i = fxs (fun i => Nat.gcd (i + 1) n) (fun i => decide (∀ j, Q.im n (i + 1) d T r j = r j)) (i + 1) := fun i _ h => by
  show _ = if Nat.gcd (i + 1) n = 1 then _ && _ else _
  rw [if_neg h]
 have key : fxs (fun i => Nat.gcd (i + 1) n) (fun i => decide (∀ j, Q.im n (i + 1) d T r j = r j)) n = true ↔ ∀ j, 1 ≤ j → r j = 0 := by
  rw [fxs_iff]
  constructor
  ·intro h j hj
   refine C.tab.fixed C.sum (A := r) (m := d) (fun t ht k => ?_) hj
   have hl : t % n < n := Nat.mod_lt _ n1
   have em : (t % n + 1) % n = (t + 1) % n := Nat.mod_add_mod t n 1
   have hc : Nat.gcd (t % n + 1) n = 1 := by
    rw [Nat.gcd_comm, Nat.gcd_rec, em, ← Nat.gcd_rec, Nat.gcd_comm]
    exact ht
   have := of_decide_eq_true (h (t % n) hl hc) k
   rwa [Q.im_mod (t := t % n + 1) (t' := t + 1) em] at this
  ·intro h i _ _
   refine decide_eq_true fun j => ?_
   rw [C.tab.im_rat d1 h j]
   split
   ·rename_i e; rw [e]
   ·rename_i e; exact (h j (by omega)).symm
 by_cases hz : ∀ j, 1 ≤ j → r j = 0
 ·have hR := C.rat_yes eA hD.pos hD.b (by omega) hA hz
  exact fixed_walk n2 (.inl rfl) hw.weak C.fails.weak hs.weak C.fld hR hT hO hg hG (fun i _ _ => hm i) ha hS rfl f1 f2 f3 z0 (key.2 hz) hW (by rw [sumE]; exact hE)
 ·have hR := C.rat_no eA hD.pos hD.b (by omega) hA hz
  exact fixed_walk n2 (.inr rfl) hw.weak C.fails.weak hs.weak C.fld hR hT hO hg hG (fun i _ _ => hm i) ha hS rfl f1 f2 f3 z0 (Bool.eq_false_iff.2 fun h => hz (key.1 h)) hW (by rw [sumE]; exact hE)
open Classical in
theorem Cy.fixed_all {n d N : Nat} {φ : List Int} {T : List (List Int)} (C : Cy n d φ T) {q : Nat → RawR} (hw : FnOK Tryz.prog false 10 [] (.c (.bool true))) (hA : ∀ j, j < N → dgq (q j)) : FnOK Tryz.prog true 9 [.c (.int .i64 n), .c (ql N q)] (.c (.bool true)) := by
 have hs := short15_one (n := N) (q := q) (r := decide (N ≤ 16 ∧ ∀ j, j < N → okd (q j))) decide_eq_true_iff
 by_cases h : N ≤ 16 ∧ ∀ j, j < N → okd (q j)
 ·rw [decide_eq_true h] at hs
  obtain ⟨D, d0, d1, ev, _⟩ := pair15 hA hA h.1 h.1 h.2 h.2
  exact C.fixed_yes hw hs ev h.1 (fun i hi => okd_wq (hA i hi) (h.2 i hi)) (dn15 d0 d1) (by decide)
 ·rw [decide_eq_false h] at hs
  exact fixed_long hw.weak C.fails.weak hs.weak
end Rf
end Go.Proofs.YtmbejakmeijcbaaGreat
