/- The law CyclotomicGalois over abstract arguments. -/
import Derived.Test.YtmbejakmeijcbaaGreatZg16
namespace Go.Proofs.YtmbejakmeijcbaaGreat
open Go.RowKit
namespace Rf
theorem wu_pos {x : Int} (h0 : 0 ≤ x) (h1 : x < 18446744073709551616) : IntKind.u64.wrap x = x := inR_wrap (k := .u64) ⟨h0, h1⟩
theorem wu_neg {x : Int} (h0 : x < 0) (h1 : -18446744073709551616 ≤ x) : IntKind.u64.wrap x = x + 18446744073709551616 := by
 show x % 18446744073709551616 = _
 omega
set_option maxHeartbeats 8000000 in
theorem rgcd_ok {a b : Int} (ha : a.natAbs ≤ 1099511627776) (hb : b.natAbs ≤ 1000) : FnOK Tryz.prog false 27 [.c (.int .i64 a), .c (.int .i64 b)] (.c (.int .i64 (Nat.gcd a.natAbs b.natAbs : Nat))) := by
 have na : a < 0 → IntKind.u64.wrap (-IntKind.u64.wrap a) = (a.natAbs : Nat) := fun h => by
  rw [wu_neg h (by omega), show -(a + 18446744073709551616) = -a - 18446744073709551616 by omega]
  show (-a - 18446744073709551616) % 18446744073709551616 = _
  omega
 have nb : b < 0 → IntKind.u64.wrap (-IntKind.u64.wrap b) = (b.natAbs : Nat) := fun h => by
  rw [wu_neg h (by omega), show -(b + 18446744073709551616) = -b - 18446744073709551616 by omega]
  show (-b - 18446744073709551616) % 18446744073709551616 = _
  omega
 have pa : ¬ a < 0 → IntKind.u64.wrap a = (a.natAbs : Nat) := fun h => by rw [wu_pos (by omega) (by omega)]; omega
 have pb : ¬ b < 0 → IntKind.u64.wrap b = (b.natAbs : Nat) := fun h => by rw [wu_pos (by omega) (by omega)]; omega
 generalize a.natAbs = u at *
 generalize b.natAbs = v at *
 rcases Classical.em (a < 0) with h | h
 all_goals rcases Classical.em (b < 0) with h' | h'
 all_goals
  refine fn_okS (E := E0) E0_ok Tryz.func27 rfl (by kernel_rfl) ?_
  refine swp_seq0 E0_ok mixed (by kernel_rfl) ?_
  conv => whnf
  refine swp_seq0 E0_ok mixed (by kernel_rfl) ?_
  conv => whnf
  refine swp_seq E0_ok mixed (by kernel_rfl) ?_
  conv => whnf
  first
   |refine bpos (show decide (a < 0) = true from decide_eq_true h) ?_
    conv => whnf
   |refine bneg (show decide (a < 0) = false from decide_eq_false h) ?_
    conv => whnf
  refine ⟨gst [(1, .c (.int .i64 b)), (5, .c (.int .u64 (u : Nat))), (6, .c (.int .u64 (IntKind.u64.wrap b)))] [], Weak.gen [] rfl trivial ⟨⟨_, rfl, rfl⟩, ⟨_, rfl, by first | exact na h | exact pa h⟩, ⟨_, rfl, rfl⟩, trivial⟩, ?_⟩
  refine swp_seq E0_ok mixed (by kernel_rfl) ?_
  conv => whnf
  first
   |refine bpos (show decide (b < 0) = true from decide_eq_true h') ?_
    conv => whnf
   |refine bneg (show decide (b < 0) = false from decide_eq_false h') ?_
    conv => whnf
  refine ⟨gst [(5, .c (.int .u64 (u : Nat))), (6, .c (.int .u64 (v : Nat)))] [], Weak.gen [] rfl trivial ⟨⟨_, rfl, rfl⟩, ⟨_, rfl, by first | exact nb h' | exact pb h'⟩, trivial⟩, ?_⟩
  refine swp_of E0_ok mixed (by kernel_rfl) ?_
  conv => whnf
  refine loop_ints (fun x : Nat × Nat => gst [(5, .c (.int .u64 x.1)), (6, .c (.int .u64 x.2))] []) (fun x => x.2) (fun x => x.1 ≤ 1099511627776 ∧ x.2 ≤ 1099511627776 ∧ Nat.gcd x.1 x.2 = Nat.gcd u v) (u, v) rfl (Weak.gen [] rfl trivial ⟨⟨_, rfl, rfl⟩, ⟨_, rfl, rfl⟩, trivial⟩) ⟨ha, Nat.le_trans hb (by decide), rfl⟩ ?_
  intro ⟨x, y⟩ ⟨hu, hv, hg⟩
  conv => whnf
  refine bcase (fun (h1 : decide ((0 : Int) < (y : Int)) = true) => ?_) fun (h1 : decide ((0 : Int) < (y : Int)) = false) => ?_
  ·have h1 : y ≠ 0 := by have := of_decide_eq_true h1; omega
   have hlt := Nat.mod_lt x (Nat.pos_of_ne_zero h1)
   have hr : Int.tmod (x : Int) (y : Int) = ((x % y : Nat) : Int) := by rw [Int.natCast_emod]; exact Int.tmod_eq_emod_of_nonneg (by omega)
   conv => whnf
   refine ⟨by omega, ?_⟩
   conv => whnf
   exact ⟨(y, x % y), hlt, Weak.gen [] rfl trivial ⟨⟨_, rfl, rfl⟩, ⟨_, rfl, hr⟩, trivial⟩, hv, by show x % y ≤ _; have : y ≤ 1099511627776 := hv; omega, by show Nat.gcd y (x % y) = _; rw [← hg, Nat.gcd_comm x y, Nat.gcd_rec y x, Nat.gcd_comm]⟩
  ·have h1 : y = 0 := by have := of_decide_eq_false h1; omega
   have hg : x = Nat.gcd u v := by rw [← hg, h1, Nat.gcd_zero_right]
   have hu : x ≤ 1099511627776 := hu
   conv => whnf
   refine bneg (show decide ((9223372036854775807 : Int) < (x : Int)) = false from decide_eq_false (by omega)) ?_
   conv => whnf
   refine ⟨rfl, Sub.int ?_⟩
   rw [← hg]
   exact inR_wrap (i64 (by omega) (by omega))
theorem rs_int (t : Int) {n : Nat} (h : 1 ≤ n) : ((rs t n : Nat) : Int) = t % n := by
 have := Int.emod_nonneg t (show (n : Int) ≠ 0 by omega)
 show (((t % (n : Int)).toNat : Nat) : Int) = _
 omega
theorem rs_gcd (t : Int) {n : Nat} (h : 1 ≤ n) : Nat.gcd (rs t n) n = Nat.gcd t.natAbs n := by
 have e := rs_int t h
 have e2 := Int.emod_add_mul_ediv t n
 refine Nat.dvd_antisymm (Nat.dvd_gcd ?_ (Nat.gcd_dvd_right _ _)) (Nat.dvd_gcd ?_ (Nat.gcd_dvd_right _ _))
 ·have h1 := Nat.gcd_dvd_left (rs t n) n
  have h2 := Nat.gcd_dvd_right (rs t n) n
  generalize Nat.gcd (rs t n) n = g at *
  have h3 : (g : Int) ∣ t % n := by rw [← e]; exact Int.natCast_dvd_natCast.2 h1
  have h4 := Int.dvd_add h3 (Int.dvd_trans (Int.natCast_dvd_natCast.2 h2) (Int.dvd_mul_right (n : Int) (t / n)))
  rw [e2] at h4
  exact Int.ofNat_dvd_left.1 h4
 ·have h1 := Nat.gcd_dvd_left t.natAbs n
  have h2 := Nat.gcd_dvd_right t.natAbs n
  generalize Nat.gcd t.natAbs n = g at *
  have h4 := Int.dvd_sub (Int.ofNat_dvd_left.2 h1) (Int.dvd_trans (Int.natCast_dvd_natCast.2 h2) (Int.dvd_mul_right (n : Int) (t / n)))
  rw [show t - (n : Int) * (t / n) = t % n by omega, ← e] at h4
  exact Int.natCast_dvd_natCast.1 h4
theorem rs_mul (s t : Int) {n : Nat} (h : 1 ≤ n) : (rs t n * rs s n) % n = rs (s * t) n % n := by
 have : (((rs t n * rs s n) % n : Nat) : Int) = ((rs (s * t) n % n : Nat) : Int) := by
  rw [Int.natCast_emod, Int.natCast_emod, Int.natCast_mul, rs_int t h, rs_int s h, rs_int (s * t) h, Int.emod_emod_of_dvd _ (Int.dvd_refl _), ← Int.mul_emod, Int.mul_comm]
 omega
section
variable {n d : Nat} {φ : List Int} {T : List (List Int)}
theorem Cy.gal_same (C : Cy n d φ T) {t : Int} (hg : Nat.gcd (rs t n) n = 1) {m : Nat} {A r : Nat → Rat} (hA : Q.Fin m A) (hr : Q.Rm d (Q.fr φ) A r) : Q.im n (rs t n) m T A = Q.im n (rs t n) d T r :=
 funext ((C.tab.unit C.unit hg).same hA hr hr.1 (C.tab.im_rm _ m A) (C.tab.im_rm _ d r))
theorem Cy.ex_rm (C : Cy n d φ T) {m : Nat} {A : Nat → Rat} (hA : Q.Fin m A) : ∃ r, Q.Rm d (Q.fr φ) A r :=
 ⟨_, Q.dvs_rm C.tab.mon (N := m) (hA.mono (by omega))⟩
theorem Cy.gal_mul (C : Cy n d φ T) {t : Int} (hg : Nat.gcd (rs t n) n = 1) {m k : Nat} {A B a b ab : Nat → Rat} (hA : Q.Fin m A) (hB : Q.Fin k B) (ha : Q.Rm d (Q.fr φ) A a) (hb : Q.Rm d (Q.fr φ) B b) (hab : Q.Rm d (Q.fr φ) (Q.cf A B) ab) : Q.Rm d (Q.fr φ) (Q.cf (Q.im n (rs t n) d T a) (Q.im n (rs t n) d T b)) (Q.im n (rs t n) d T ab) := by
 obtain ⟨s, hs⟩ := C.ex_rm ((C.tab.im_fin (rs t n) d a).cf (C.tab.im_fin (rs t n) d b))
 have h1 := C.tab.im_rm (rs t n) m A
 rw [C.gal_same hg hA ha] at h1
 have h2 := C.tab.im_rm (rs t n) k B
 rw [C.gal_same hg hB hb] at h2
 have e := (C.tab.unit C.unit hg).mul hA hB h1 h2 hab (C.tab.im_rm (rs t n) d ab) hs
 exact hs.trans_eq fun j => (e j).symm
theorem Cy.gal_add (C : Cy n d φ T) {t : Int} (hg : Nat.gcd (rs t n) n = 1) {m k : Nat} {A B a b ab : Nat → Rat} (hA : Q.Fin m A) (hB : Q.Fin k B) (ha : Q.Rm d (Q.fr φ) A a) (hb : Q.Rm d (Q.fr φ) B b) (hab : Q.Rm d (Q.fr φ) (fun j => A j + B j) ab) : Q.Rm d (Q.fr φ) (fun j => Q.im n (rs t n) d T a j + Q.im n (rs t n) d T b j) (Q.im n (rs t n) d T ab) := by
 obtain ⟨s, hs⟩ := C.ex_rm ((C.tab.im_fin (rs t n) d a).add (C.tab.im_fin (rs t n) d b))
 have h1 := C.tab.im_rm (rs t n) m A
 rw [C.gal_same hg hA ha] at h1
 have h2 := C.tab.im_rm (rs t n) k B
 rw [C.gal_same hg hB hb] at h2
 have e := (C.tab.unit C.unit hg).add hA hB h1 h2 hab (C.tab.im_rm (rs t n) d ab) hs
 exact hs.trans_eq fun j => (e j).symm
theorem Cy.gal_comp (C : Cy n d φ T) {s t : Int} (hg : Nat.gcd (rs s n) n = 1) (r : Nat → Rat) : Q.im n (rs s n) d T (Q.im n (rs t n) d T r) = Q.im n (rs (s * t) n) d T r := by
 have h := (C.tab.unit C.unit hg).comp (C.tab.im_rm (rs t n) d r) (C.tab.im_fin (rs t n) d r) (C.tab.im_rm (rs s n) d (Q.im n (rs t n) d T r))
 have e := h.eq C.tab.mon (C.tab.im_rm (rs t n * rs s n) d r)
 rw [funext e, Q.im_mod (rs_mul s t C.tab.n1)]
theorem gcd_mul_one {s t : Int} {n : Nat} (hn : 1 ≤ n) (h1 : Nat.gcd (rs s n) n = 1) (h2 : Nat.gcd (rs t n) n = 1) : Nat.gcd (rs (s * t) n) n = 1 := by
 rw [rs_gcd _ hn] at h1 h2 ⊢
 rw [Int.natAbs_mul]
 exact Nat.Coprime.mul_left h1 h2
end
end Rf
end Go.Proofs.YtmbejakmeijcbaaGreat
