/- The law CyclotomicLifts over abstract arguments. -/
import Derived.Test.YtmbejakmeijcbaaGreatZl14
import Derived.Test.YtmbejakmeijcbaaGreatZl26
namespace Go.Proofs.YtmbejakmeijcbaaGreat
open Go.RowKit
namespace Rf
set_option maxHeartbeats 4000000 in
theorem lifts_o1 {n m l x : Int} {NA NB : Nat} {qA qB : Nat → RawR} (hw : FnOK Tryz.prog true 10 [] (.c (.bool true))) (hf1 : FnOK Tryz.prog true 11 [.c (.int .i64 n)] (.c (.int .i64 x))) (hx : x ≠ 0) : FnOK Tryz.prog true 6 [.g [.int .i64 n, .int .i64 m, .int .i64 l, ql NA qA, ql NB qB]] (.c (.bool true)) := by
 refine fn_ok (E := E1t) E1t_ok Tryz.func6 rfl mixed (by kernel_rfl) (by kernel_rfl) ?_
 conv => whnf
 refine ⟨_, hw, ?_⟩
 conv => whnf
 refine ⟨_, hf1, ?_⟩
 conv => whnf
 refine bneg (show gw false (!decide (x = 0)) = false by rw [decide_eq_false hx]; rfl) ?_
 conv => whnf
 exact ⟨rfl, Sub.refl _⟩
set_option maxHeartbeats 4000000 in
theorem lifts_o2 {n m l x : Int} {NA NB : Nat} {qA qB : Nat → RawR} (hw : FnOK Tryz.prog true 10 [] (.c (.bool true))) (hf1 : FnOK Tryz.prog true 11 [.c (.int .i64 n)] (.c (.int .i64 0))) (hf2 : FnOK Tryz.prog true 11 [.c (.int .i64 m)] (.c (.int .i64 x))) (hx : x ≠ 0) : FnOK Tryz.prog true 6 [.g [.int .i64 n, .int .i64 m, .int .i64 l, ql NA qA, ql NB qB]] (.c (.bool true)) := by
 refine fn_ok (E := E1t) E1t_ok Tryz.func6 rfl mixed (by kernel_rfl) (by kernel_rfl) ?_
 conv => whnf
 refine ⟨_, hw, ?_⟩
 conv => whnf
 refine ⟨_, hf1, ?_⟩
 conv => whnf
 refine ⟨_, hf2, ?_⟩
 conv => whnf
 refine bneg (show gw false (!decide (x = 0)) = false by rw [decide_eq_false hx]; rfl) ?_
 conv => whnf
 exact ⟨rfl, Sub.refl _⟩
set_option maxHeartbeats 4000000 in
theorem lifts_o3 {n m l x : Int} {NA NB : Nat} {qA qB : Nat → RawR} (hw : FnOK Tryz.prog true 10 [] (.c (.bool true))) (hf1 : FnOK Tryz.prog true 11 [.c (.int .i64 n)] (.c (.int .i64 0))) (hf2 : FnOK Tryz.prog true 11 [.c (.int .i64 m)] (.c (.int .i64 0))) (hf3 : FnOK Tryz.prog true 11 [.c (.int .i64 l)] (.c (.int .i64 x))) (hx : x ≠ 0) : FnOK Tryz.prog true 6 [.g [.int .i64 n, .int .i64 m, .int .i64 l, ql NA qA, ql NB qB]] (.c (.bool true)) := by
 refine fn_ok (E := E1t) E1t_ok Tryz.func6 rfl mixed (by kernel_rfl) (by kernel_rfl) ?_
 conv => whnf
 refine ⟨_, hw, ?_⟩
 conv => whnf
 refine ⟨_, hf1, ?_⟩
 conv => whnf
 refine ⟨_, hf2, ?_⟩
 conv => whnf
 refine ⟨_, hf3, ?_⟩
 conv => whnf
 refine bneg (show gw false (!decide (x = 0)) = false by rw [decide_eq_false hx]; rfl) ?_
 conv => whnf
 exact ⟨rfl, Sub.refl _⟩
set_option maxHeartbeats 4000000 in
theorem lifts_o4 {n m l : Int} {NA NB : Nat} {qA qB : Nat → RawR} (hw : FnOK Tryz.prog true 10 [] (.c (.bool true))) (hf1 : FnOK Tryz.prog true 11 [.c (.int .i64 n)] (.c (.int .i64 0))) (hf2 : FnOK Tryz.prog true 11 [.c (.int .i64 m)] (.c (.int .i64 0))) (hf3 : FnOK Tryz.prog true 11 [.c (.int .i64 l)] (.c (.int .i64 0))) (h1 : n ≠ 0) (hx : Int.tmod m n ≠ 0) : FnOK Tryz.prog true 6 [.g [.int .i64 n, .int .i64 m, .int .i64 l, ql NA qA, ql NB qB]] (.c (.bool true)) := by
 refine fn_ok (E := E1t) E1t_ok Tryz.func6 rfl mixed (by kernel_rfl) (by kernel_rfl) ?_
 conv => whnf
 refine ⟨_, hw, ?_⟩
 conv => whnf
 refine ⟨_, hf1, ?_⟩
 conv => whnf
 refine ⟨_, hf2, ?_⟩
 conv => whnf
 refine ⟨_, hf3, ?_⟩
 conv => whnf
 refine ⟨by omega, ?_⟩
 conv => whnf
 refine bneg (show gw false (!decide (Int.tmod m n = 0)) = false by rw [decide_eq_false hx]; rfl) ?_
 conv => whnf
 exact ⟨rfl, Sub.refl _⟩
set_option maxHeartbeats 4000000 in
theorem lifts_o5 {n m l : Int} {NA NB : Nat} {qA qB : Nat → RawR} (hw : FnOK Tryz.prog true 10 [] (.c (.bool true))) (hf1 : FnOK Tryz.prog true 11 [.c (.int .i64 n)] (.c (.int .i64 0))) (hf2 : FnOK Tryz.prog true 11 [.c (.int .i64 m)] (.c (.int .i64 0))) (hf3 : FnOK Tryz.prog true 11 [.c (.int .i64 l)] (.c (.int .i64 0))) (h1 : n ≠ 0) (t1 : Int.tmod m n = 0) (h2 : m ≠ 0) (hx : Int.tmod l m ≠ 0) : FnOK Tryz.prog true 6 [.g [.int .i64 n, .int .i64 m, .int .i64 l, ql NA qA, ql NB qB]] (.c (.bool true)) := by
 refine fn_ok (E := E1t) E1t_ok Tryz.func6 rfl mixed (by kernel_rfl) (by kernel_rfl) ?_
 conv => whnf
 refine ⟨_, hw, ?_⟩
 conv => whnf
 refine ⟨_, hf1, ?_⟩
 conv => whnf
 refine ⟨_, hf2, ?_⟩
 conv => whnf
 refine ⟨_, hf3, ?_⟩
 conv => whnf
 refine ⟨by omega, ?_⟩
 conv => whnf
 refine bpos (show gw false (!decide (Int.tmod m n = 0)) = true by rw [t1]; rfl) ?_
 conv => whnf
 refine ⟨by omega, ?_⟩
 conv => whnf
 refine bneg (show gw false (!decide (Int.tmod l m = 0)) = false by rw [decide_eq_false hx]; rfl) ?_
 conv => whnf
 exact ⟨rfl, Sub.refl _⟩
set_option maxHeartbeats 4000000 in
theorem lifts_o6 {n m l : Int} {NA NB : Nat} {qA qB : Nat → RawR} (hw : FnOK Tryz.prog true 10 [] (.c (.bool true))) (hf1 : FnOK Tryz.prog true 11 [.c (.int .i64 n)] (.c (.int .i64 0))) (hf2 : FnOK Tryz.prog true 11 [.c (.int .i64 m)] (.c (.int .i64 0))) (hf3 : FnOK Tryz.prog true 11 [.c (.int .i64 l)] (.c (.int .i64 0))) (h1 : n ≠ 0) (t1 : Int.tmod m n = 0) (h2 : m ≠ 0) (t2 : Int.tmod l m = 0) (hs : FnOK Tryz.prog true 19 [.c (.row 1 2 (rowF 1 [ql NA qA, ql NB qB]))] (.c (.bool false))) : FnOK Tryz.prog true 6 [.g [.int .i64 n, .int .i64 m, .int .i64 l, ql NA qA, ql NB qB]] (.c (.bool true)) := by
 refine fn_ok (E := E1t) E1t_ok Tryz.func6 rfl mixed (by kernel_rfl) (by kernel_rfl) ?_
 conv => whnf
 refine ⟨_, hw, ?_⟩
 conv => whnf
 refine ⟨_, hf1, ?_⟩
 conv => whnf
 refine ⟨_, hf2, ?_⟩
 conv => whnf
 refine ⟨_, hf3, ?_⟩
 conv => whnf
 refine ⟨by omega, ?_⟩
 conv => whnf
 refine bpos (show gw false (!decide (Int.tmod m n = 0)) = true by rw [t1]; rfl) ?_
 conv => whnf
 refine ⟨by omega, ?_⟩
 conv => whnf
 refine bpos (show gw false (!decide (Int.tmod l m = 0)) = true by rw [t2]; rfl) ?_
 conv => whnf
 refine ⟨fun i j hi hj => ?_, ?_⟩
 ·match i, j, hi, hj with
  | 0, 0, _, _ => rfl
  | 1, 0, _, _ => rfl
 conv => whnf
 refine ⟨_, hs, ?_⟩
 conv => whnf
 exact ⟨rfl, Sub.refl _⟩
theorem div_chain {n m l : Nat} (h1 : 1 ≤ n) (h2 : 1 ≤ m) (a : m % n = 0) (b : l % m = 0) : m / n * (l / m) = l / n ∧ l % n = 0 := by
 obtain ⟨u, rfl⟩ := Nat.dvd_of_mod_eq_zero a
 obtain ⟨v, rfl⟩ := Nat.dvd_of_mod_eq_zero b
 refine ⟨?_, ?_⟩
 ·rw [Nat.mul_div_cancel_left u h1, Nat.mul_div_cancel_left v h2, Nat.mul_assoc, Nat.mul_div_cancel_left _ h1]
 ·rw [Nat.mul_assoc]
  exact Nat.mul_mod_right _ _
section
variable {n d m d' l d'' : Nat} {φ φ' φ'' : List Int} {T T' T'' : List (List Int)}
theorem Cy.hom_mul (C' : Cy m d' φ' T') {s k k' : Nat} {A B a b ab : Nat → Rat} (H : Q.Hom d (Q.fr φ) d' (Q.fr φ') s) (hA : Q.Fin k A) (hB : Q.Fin k' B) (ha : Q.Rm d (Q.fr φ) A a) (hb : Q.Rm d (Q.fr φ) B b) (hab : Q.Rm d (Q.fr φ) (Q.cf A B) ab) : Q.Rm d' (Q.fr φ') (Q.cf (Q.im m s d T' a) (Q.im m s d T' b)) (Q.im m s d T' ab) := by
 obtain ⟨w, hw⟩ := C'.ex_rm ((C'.tab.im_fin s d a).cf (C'.tab.im_fin s d b))
 have h1 := H.red hA ha (C'.tab.im_rm s d a)
 have h2 := H.red hB hb (C'.tab.im_rm s d b)
 have e := H.mul hA hB h1 h2 hab (C'.tab.im_rm s d ab) hw
 exact hw.trans_eq fun j => (e j).symm
theorem Cy.hom_comp (C' : Cy m d' φ' T') (C'' : Cy l d'' φ'' T'') {s t u : Nat} (H : Q.Hom d' (Q.fr φ') d'' (Q.fr φ'') s) (hu : t * s = u) (r : Nat → Rat) : Q.im l s d' T'' (Q.im m t d T' r) = Q.im l u d T'' r := by
 have h := H.comp (C'.tab.im_rm t d r) (C'.tab.im_fin t d r) (C''.tab.im_rm s d' (Q.im m t d T' r))
 rw [hu] at h
 exact funext (h.eq C''.tab.mon (C''.tab.im_rm u d r))
theorem rat_iff (C : Cy n d φ T) (C' : Cy m d' φ' T') {s : Nat} {G : List (List Int)} {E : Int} (hb : Q.backB m d d' s T' G E = true) {r : Nat → Rat} (hr : Q.Fin d r) : (∀ j, 1 ≤ j → r j = 0) ↔ ∀ j, 1 ≤ j → Q.im m s d T' r j = 0 := by
 refine ⟨fun h j hj => ?_, fun h j hj => ?_⟩
 ·rw [C'.tab.im_rat C.tab.d1 h j, if_neg (by omega)]
 ·rcases Nat.lt_or_ge j d with c | c
  ·exact Q.back_ok C'.tab hb h hj c
  ·exact hr j c
set_option maxHeartbeats 4000000 in
theorem Cy.lifts_law (C : Cy n d φ T) (C' : Cy m d' φ' T') (C'' : Cy l d'' φ'' T'') (a1 : m % n = 0) (a2 : l % m = 0) (H1 : Q.homB d m d' (m / n) φ T' = true) (H2 : Q.homB d' l d'' (l / m) φ' T'' = true) {G : List (List Int)} {E : Int} (B1 : Q.backB m d d' (m / n) T' G E = true) {NA NB D e : Nat} {qA qB : Nat → RawR} {A B : Nat → Rat} (hw : FnOK Tryz.prog false 10 [] (.c (.bool true))) (hs : FnOK Tryz.prog false 19 [.c (.row 1 2 (rowF 1 [ql NA qA, ql NB qB]))] (.c (.bool true))) (eA : Ev NA qA A D e) (eB : Ev NB qB B D e) (hNA : NA ≤ 16) (hNB : NB ≤ 16) (wA : ∀ i, i < NA → wq (qA i)) (wB : ∀ i, i < NB → wq (qB i)) (hD : Dn D) (he : e ≤ 5000) : FnOK Tryz.prog true 6 [.g [.int .i64 n, .int .i64 m, .int .i64 l, ql NA qA, ql NB qB]] (.c (.bool true)) := by
 have n1 := C.tab.n1
 have m1 := C'.tab.n1
 have d2 := C.tab.d2
 have e2 := C'.tab.d2
 have f2 := C''.tab.d2
 have hw := hw.weak (r := true)
 have hs := hs.weak (r := true)
 have hf1 := C.fails.weak (r := true)
 have hf2 := C'.fails.weak (r := true)
 have hf3 := C''.fails.weak (r := true)
 have t1 : Int.tmod (m : Int) (n : Int) = 0 := by rw [tmod_nat, a1]; rfl
 have t2 : Int.tmod (l : Int) (m : Int) = 0 := by rw [tmod_nat, a2]; rfl
 obtain ⟨c1, c2⟩ := div_chain n1 m1 a1 a2
 have h1 := C.tab.hom C'.tab H1
 have h2 := C'.tab.hom C''.tab H2
 obtain ⟨rA, hA⟩ := C.ex_rm eA.fin
 obtain ⟨rB, hB⟩ := C.ex_rm eB.fin
 obtain ⟨ab, hab⟩ := C.ex_rm (eA.fin.cf eB.fin)
 have bA := (nNormal_r C.fk eA.val (by omega) eA.fit eA.bd hD.pos hD.b (by omega) hA).1
 have bB := (nNormal_r C.fk eB.val (by omega) eB.fit eB.bd hD.pos hD.b (by omega) hB).1
 have bSA := im_bd C' (t := m / n) (m := d) (by omega) bA
 have bSB := im_bd C' (t := m / n) (m := d) (by omega) bB
 have fSA := C'.tab.im_fin (m / n) d rA
 have fSB := C'.tab.im_fin (m / n) d rB
 have tA := Q.tq_le (Q.im m (m / n) d T' rA) d'
 have tB := Q.tq_le (Q.im m (m / n) d T' rB) d'
 have hF := C.rfield.weak (r := true)
 have hF2 := C'.rfield.weak (r := true)
 have g1 := C.lift_ok C' a1 eA hD.pos hD.b (by omega) hA
 have g2 := C.lift_ok C' a1 eB hD.pos hD.b (by omega) hB
 have bcf := cf_bd5 (by omega) eA.fin eA.bd eB.bd
 have fcf := eA.fin.cf eB.fin
 have bab := (nNormal_r C.fk (N := NA + NB) (q := fun i => ofR (Q.cf A B i)) (by rw [show (fun i => (ofR (Q.cf A B i)).val) = Q.cf A B from funext fun i => ofR_val _]; exact Q.qx_self fcf) (by omega) (fun i _ => ofR_fit (bd_fit (bcf i) hD.pp (le_lim hD.bb) (two_lt (by omega)))) bcf hD.pp hD.bb (by omega) hab).1
 have mm := (C.fr.mul14 C.cbd eA.val eB.val (by omega) (by omega) wA wB eA.bd eB.bd hD.pos hD.pos hD.aa (by omega) (by omega) hab).weak (r := true)
 have evab := ev_n hab.1 d2 bab hD.pp hD.bb (by omega)
 have g3 := C.lift_ok C' a1 evab hD.pp hD.bb (by omega) (Q.Rm.self hab.1)
 have bP := im_bd C' (t := m / n) (m := d) (by omega) bab
 have g4 := (C.rlift_ok C' eA.val (by omega) wA eA.bd bA hD.pos hD.a (by omega) hA).weak (r := true)
 have s1 := same_self e2 bSA hD.pos hD.a (by omega)
 have m2 := (C'.fr.mul14 C'.cbd (nql_qx fSA) (nql_qx fSB) (by omega) (by omega) (fun i _ => wq_bd (bSA i) hD.pos hD.a (by omega)) (fun i _ => wq_bd (bSB i) hD.pos hD.a (by omega)) bSA bSB hD.pos hD.pos hD.aa (by omega) (by omega) (C'.hom_mul h1 eA.fin eB.fin hA hB hab)).weak (r := true)
 have s2 := same_self e2 bP hD.pp hD.aa (by omega)
 have evSA := ev_n fSA e2 bSA hD.pos hD.b (by omega)
 have g5 := C'.lift_ok C'' a2 evSA hD.pos hD.b (by omega) (Q.Rm.self fSA)
 rw [C'.hom_comp C'' h2 c1 rA] at g5
 have g6 := C.lift_ok C'' c2 eA hD.pos hD.b (by omega) hA
 have s3 := same_self f2 (im_bd C'' (t := l / n) (m := d) (by omega) bA) hD.pos hD.a (by omega)
 by_cases hz : ∀ j, 1 ≤ j → rA j = 0
 ·have hz' := (rat_iff C C' B1 hA.1).1 hz
  have e0 : Q.im m (m / n) d T' rA 0 = rA 0 := by rw [C'.tab.im_rat C.tab.d1 hz 0, if_pos rfl]
  have r1 := C.rat_yes eA hD.pos hD.b (by omega) hA hz
  have r2 := C'.rat_yes evSA hD.pos hD.b (by omega) (Q.Rm.self fSA) hz'
  rw [e0] at r2
  have s4 := (rqsame_n (x := rA 0) (y := rA 0) (Nat.le_trans (bd_doc (bA 0) hD.pos hD.a (by omega)) (by decide))).weak (r := true)
  rw [decide_eq_true rfl] at s4
  exact lifts_yes n1 m1 hw hf1 hf2 hf3 t1 t2 hs hF hF2 g1 g2 mm g3 g4 s1 m2 s2 g5 g6 r1 r2 s3 s4
 ·have hz' : ¬ ∀ j, 1 ≤ j → Q.im m (m / n) d T' rA j = 0 := fun h => hz ((rat_iff C C' B1 hA.1).2 h)
  have r1 := C.rat_no eA hD.pos hD.b (by omega) hA hz
  have r2 := C'.rat_no evSA hD.pos hD.b (by omega) (Q.Rm.self fSA) hz'
  exact lifts_no n1 m1 hw hf1 hf2 hf3 t1 t2 hs hF hF2 g1 g2 mm g3 g4 s1 m2 s2 g5 g6 r1 r2 s3
end
open Classical in
theorem lifts_all (n m l : Int) {NA NB : Nat} {qA qB : Nat → RawR} (hw : FnOK Tryz.prog false 10 [] (.c (.bool true))) (hA : ∀ j, j < NA → dgq (qA j)) (hB : ∀ j, j < NB → dgq (qB j)) : FnOK Tryz.prog true 6 [.g [.int .i64 n, .int .i64 m, .int .i64 l, ql NA qA, ql NB qB]] (.c (.bool true)) := by
 obtain ⟨x1, f1, y1⟩ := fails_all n
 obtain ⟨x2, f2, y2⟩ := fails_all m
 obtain ⟨x3, f3, y3⟩ := fails_all l
 by_cases c1 : x1 ≠ 0
 ·exact lifts_o1 hw.weak f1.weak c1
 have c1 : x1 = 0 := Classical.not_not.1 c1
 obtain ⟨a, rfl, ha⟩ := y1.1 c1
 subst c1
 by_cases c2 : x2 ≠ 0
 ·exact lifts_o2 hw.weak f1.weak f2.weak c2
 have c2 : x2 = 0 := Classical.not_not.1 c2
 obtain ⟨b, rfl, hb⟩ := y2.1 c2
 subst c2
 by_cases c3 : x3 ≠ 0
 ·exact lifts_o3 hw.weak f1.weak f2.weak f3.weak c3
 have c3 : x3 = 0 := Classical.not_not.1 c3
 obtain ⟨c, rfl, hc⟩ := y3.1 c3
 subst c3
 have C := cy_at ha
 have C' := cy_at hb
 have C'' := cy_at hc
 have p1 : ((a : Nat) : Int) ≠ 0 := by have := C.tab.n1; omega
 have p2 : ((b : Nat) : Int) ≠ 0 := by have := C'.tab.n1; omega
 by_cases t1 : Int.tmod (b : Int) (a : Int) ≠ 0
 ·exact lifts_o4 hw.weak f1.weak f2.weak f3.weak p1 t1
 have t1 := Classical.not_not.1 t1
 by_cases t2 : Int.tmod (c : Int) (b : Int) ≠ 0
 ·exact lifts_o5 hw.weak f1.weak f2.weak f3.weak p1 t1 p2 t2
 have t2 := Classical.not_not.1 t2
 have hs := short15_two (n := NA) (m := NB) (q := qA) (p := qB) (r := decide ((NA ≤ 16 ∧ ∀ j, j < NA → okd (qA j)) ∧ NB ≤ 16 ∧ ∀ j, j < NB → okd (qB j))) decide_eq_true_iff
 by_cases h : (NA ≤ 16 ∧ ∀ j, j < NA → okd (qA j)) ∧ NB ≤ 16 ∧ ∀ j, j < NB → okd (qB j)
 ·rw [decide_eq_true h] at hs
  have u1 : b % a = 0 := by rw [tmod_nat] at t1; omega
  have u2 : c % b = 0 := by rw [tmod_nat] at t2; omega
  obtain ⟨D, d0, d1, eA, eB⟩ := pair15 hA hB h.1.1 h.2.1 h.1.2 h.2.2
  obtain ⟨H1, G, E, B1⟩ := lift_at ha hb u1
  obtain ⟨H2, _⟩ := lift_at hb hc u2
  exact C.lifts_law C' C'' u1 u2 H1 H2 B1 hw hs eA eB h.1.1 h.2.1 (fun i hi => okd_wq (hA i hi) (h.1.2 i hi)) (fun i hi => okd_wq (hB i hi) (h.2.2 i hi)) (dn15 d0 d1) (by decide)
 ·rw [decide_eq_false h] at hs
  exact lifts_o6 hw.weak f1.weak f2.weak f3.weak p1 t1 p2 t2 hs.weak
end Rf
end Go.Proofs.YtmbejakmeijcbaaGreat
