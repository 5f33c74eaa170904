/- The equation of a division modulo a prime. -/
import Derived.Test.YtmfaipklhkgieaaGreatFpP
namespace Go.Proofs.YtmfaipklhkgieaaGreat
namespace Fp
theorem div_eq {p b : Int} {m N : Nat} {F G : Nat → Int} (hGz : ∀ j, m ≤ j → G j = 0) : ∀ {t : Nat}, t ≤ N → ∀ k, ∃ z, F k = dn p b m N F G t k + (cv (dq p b m N F G) G N k - cv (dq p b m N F G) G (N - t) k) + p * z
  | 0, _, k => ⟨0, by show F k = F k + _ + _; rw [Nat.sub_zero, Int.sub_self, Int.mul_zero, Int.add_zero, Int.add_zero]⟩
  | t + 1, ht, k => by
    obtain ⟨z, hz⟩ := div_eq (p := p) (b := b) (F := F) hGz (show t ≤ N by omega) k
    have hs := congrFun (dn_step (p := p) (b := b) (m := m) (N := N) (F := F) (G := G) (i := N - (t + 1)) (by omega)) k
    rw [show N - (N - (t + 1)) = t + 1 by omega, show N - (N - (t + 1) + 1) = t by omega] at hs
    have hc : cv (dq p b m N F G) G (N - t) k = cv (dq p b m N F G) G (N - (t + 1)) k + if N - (t + 1) ≤ k then dq p b m N F G (N - (t + 1)) * G (k - (N - (t + 1))) else 0 := by
      rw [show N - t = N - (t + 1) + 1 by omega]
      rfl
    rw [hc] at hz
    generalize cv (dq p b m N F G) G N k = A at *
    generalize cv (dq p b m N F G) G (N - (t + 1)) k = B at *
    generalize dq p b m N F G (N - (t + 1)) = c at *
    generalize N - (t + 1) = i at *
    unfold dpart at hs
    by_cases h1 : i ≤ k
    · rw [if_pos h1] at hz
      by_cases h2 : k < i + m
      · rw [if_pos ⟨h1, h2⟩] at hs
        have e := Int.mul_ediv_add_emod (dn p b m N F G t k - c * G (k - i)) p
        rw [← hs] at e
        generalize (dn p b m N F G t k - c * G (k - i)) / p = y at e
        exact ⟨z + y, by grind⟩
      · rw [if_neg (by omega)] at hs
        rw [hGz (k - i) (by omega), Int.mul_zero] at hz
        exact ⟨z, by rw [hs]; omega⟩
    · rw [if_neg h1] at hz
      rw [if_neg (by omega)] at hs
      exact ⟨z, by rw [hs]; omega⟩
/-- Dividend, divisor, quotient and rest. -/
theorem div_all {p b : Int} {m N : Nat} {F G : Nat → Int} (hF : ∀ i, 0 ≤ F i ∧ F i < p) (hGz : ∀ j, m ≤ j → G j = 0) (k : Nat) : (cv (dq p b m N F G) G N k + dn p b m N F G N k) % p = F k := by
  obtain ⟨z, hz⟩ := div_eq (p := p) (b := b) (F := F) hGz (Nat.le_refl N) k
  rw [Nat.sub_self] at hz
  have e : cv (dq p b m N F G) G N k + dn p b m N F G N k = F k + p * -z := by
    have : cv (dq p b m N F G) G 0 k = 0 := rfl
    rw [this] at hz
    have e2 : p * -z = -(p * z) := Int.mul_neg _ _
    omega
  rw [e, Int.add_mul_emod_self_left]
  exact Int.emod_eq_of_lt (hF k).1 (hF k).2
end Fp
end Go.Proofs.YtmfaipklhkgieaaGreat
/- Sums of products: whole, in either order, of sums. -/
namespace Go.Proofs.YtmfaipklhkgieaaGreat
namespace Fp
/-- The sum of the first n. -/
def su (f : Nat → Int) : Nat → Int
  | 0 => 0
  | n + 1 => su f n + f n
theorem su_congr {f g : Nat → Int} : ∀ {n : Nat}, (∀ i, i < n → f i = g i) → su f n = su g n
  | 0, _ => rfl
  | n + 1, h => by
    unfold su
    rw [su_congr fun i hi => h i (by omega), h n (by omega)]
theorem su_add {f g : Nat → Int} : ∀ {n : Nat}, su (fun i => f i + g i) n = su f n + su g n
  | 0 => rfl
  | n + 1 => by
    unfold su
    rw [su_add]
    omega
theorem su_mul {c : Int} {f : Nat → Int} : ∀ {n : Nat}, su (fun i => c * f i) n = c * su f n
  | 0 => (Int.mul_zero c).symm
  | n + 1 => by
    unfold su
    rw [su_mul, Int.mul_add]
theorem su_zero {f : Nat → Int} : ∀ {n : Nat}, (∀ i, i < n → f i = 0) → su f n = 0
  | 0, _ => rfl
  | n + 1, h => by
    unfold su
    rw [su_zero fun i hi => h i (by omega), h n (by omega)]
    rfl
theorem su_head {f : Nat → Int} : ∀ {n : Nat}, su f (n + 1) = f 0 + su (fun i => f (i + 1)) n
  | 0 => by show 0 + f 0 = f 0 + 0; omega
  | n + 1 => by
    show su f (n + 1) + f (n + 1) = f 0 + (su (fun i => f (i + 1)) n + f (n + 1))
    rw [su_head]
    omega
theorem su_rev : ∀ {n : Nat} {f : Nat → Int}, su f n = su (fun i => f (n - 1 - i)) n
  | 0, _ => rfl
  | n + 1, f => by
    rw [su_head, su_rev (n := n)]
    show f 0 + su (fun i => f (n - 1 - i + 1)) n = su (fun i => f (n + 1 - 1 - i)) n + f (n + 1 - 1 - n)
    rw [show n + 1 - 1 - n = 0 by omega, su_congr (g := fun i => f (n + 1 - 1 - i)) fun i hi => by
      show f (n - 1 - i + 1) = f (n + 1 - 1 - i)
      rw [show n - 1 - i + 1 = n + 1 - 1 - i by omega]]
    omega
theorem su_more {f : Nat → Int} {n : Nat} (h : ∀ i, n ≤ i → f i = 0) : ∀ {m : Nat}, n ≤ m → su f m = su f n
  | 0, hm => by rw [show n = 0 by omega]
  | m + 1, hm => by
    rcases Nat.lt_or_ge m n with h1 | h1
    · rw [show n = m + 1 by omega]
    · rw [← su_more h h1]
      show su f m + f m = su f m
      rw [h m h1, Int.add_zero]
theorem cv_su {F G : Nat → Int} {n : Nat} : ∀ {i : Nat}, cv F G i n = su (fun i => if i ≤ n then F i * G (n - i) else 0) i
  | 0 => rfl
  | i + 1 => by
    show cv F G i n + _ = _ + _
    rw [cv_su]
/-- The whole sum at a place. -/
def cf (F G : Nat → Int) (k : Nat) : Int := su (fun i => F i * G (k - i)) (k + 1)
theorem cv_cf {F G : Nat → Int} {n k : Nat} (hF : ∀ j, n ≤ j → F j = 0) : cv F G n k = cf F G k := by
  rw [cv_su]
  have e : cf F G k = su (fun i => if i ≤ k then F i * G (k - i) else 0) (k + 1) := su_congr fun i hi => (if_pos (by omega)).symm
  rw [e]
  rcases Nat.lt_or_ge n (k + 1) with h | h
  · refine (su_more (fun i hi => ?_) (by omega)).symm
    show (if i ≤ k then F i * G (k - i) else 0) = 0
    rw [hF i hi, Int.zero_mul]
    simp
  · refine su_more (fun i hi => ?_) h
    exact if_neg (by omega)
theorem cf_comm (F G : Nat → Int) (k : Nat) : cf F G k = cf G F k := by
  unfold cf
  rw [su_rev]
  refine su_congr fun i hi => ?_
  rw [show k + 1 - 1 - i = k - i by omega, show k - (k - i) = i by omega, Int.mul_comm]
theorem cf_add (F G H : Nat → Int) (k : Nat) : cf F (fun i => G i + H i) k = cf F G k + cf F H k := by
  unfold cf
  rw [← su_add]
  exact su_congr fun i _ => Int.mul_add _ _ _
/-- Sums agree modulo p where their terms do. -/
theorem su_mod {p : Int} {f g : Nat → Int} : ∀ {n : Nat}, (∀ i, i < n → f i % p = g i % p) → su f n % p = su g n % p
  | 0, _ => rfl
  | n + 1, h => by
    unfold su
    rw [Int.add_emod, su_mod fun i hi => h i (by omega), h n (by omega), ← Int.add_emod]
theorem cf_mod {p : Int} {F F' G G' : Nat → Int} (hF : ∀ i, F i % p = F' i % p) (hG : ∀ i, G i % p = G' i % p) (k : Nat) : cf F G k % p = cf F' G' k % p :=
  su_mod fun i _ => by rw [Int.mul_emod, hF, hG, ← Int.mul_emod]
/-- A triangle, summed by rows or by columns. -/
theorem su_tri {f : Nat → Nat → Int} : ∀ {n : Nat}, su (fun i => su (fun j => f j (i - j)) (i + 1)) n = su (fun j => su (fun l => f j l) (n - j)) n
  | 0 => rfl
  | n + 1 => by
    show su (fun i => su (fun j => f j (i - j)) (i + 1)) n + su (fun j => f j (n - j)) (n + 1) = su (fun j => su (fun l => f j l) (n + 1 - j)) n + su (fun l => f n l) (n + 1 - n)
    rw [su_tri, show n + 1 - n = 0 + 1 by omega]
    have e : su (fun j => su (fun l => f j l) (n + 1 - j)) n = su (fun j => su (fun l => f j l) (n - j) + f j (n - j)) n := su_congr fun j hj => by
      show su (fun l => f j l) (n + 1 - j) = _
      rw [show n + 1 - j = n - j + 1 by omega]
      rfl
    rw [e, su_add]
    show _ + (su (fun j => f j (n - j)) n + f n (n - n)) = _ + (0 + f n 0)
    rw [Nat.sub_self]
    omega
theorem cf_assoc (F G H : Nat → Int) (k : Nat) : cf (fun i => cf F G i) H k = cf F (fun i => cf G H i) k := by
  have e1 : cf (fun i => cf F G i) H k = su (fun i => su (fun j => F j * G (i - j) * H (k - (i - j) - j)) (i + 1)) (k + 1) := su_congr fun i hi => by
    show su (fun j => F j * G (i - j)) (i + 1) * H (k - i) = _
    rw [Int.mul_comm, ← su_mul]
    refine su_congr fun j hj => ?_
    show H (k - i) * (F j * G (i - j)) = F j * G (i - j) * H (k - (i - j) - j)
    rw [show k - (i - j) - j = k - i by omega, Int.mul_comm]
  have e2 : cf F (fun i => cf G H i) k = su (fun j => su (fun l => F j * G l * H (k - l - j)) (k + 1 - j)) (k + 1) := su_congr fun j hj => by
    show F j * su (fun l => G l * H (k - j - l)) (k - j + 1) = _
    rw [← su_mul, show k - j + 1 = k + 1 - j by omega]
    refine su_congr fun l hl => ?_
    show F j * (G l * H (k - j - l)) = F j * G l * H (k - l - j)
    rw [show k - j - l = k - l - j by omega, Int.mul_assoc]
  rw [e1, e2]
  exact su_tri (f := fun j l => F j * G l * H (k - l - j))
end Fp
end Go.Proofs.YtmfaipklhkgieaaGreat
/- Normal forms of products, sums, multiples, quotients. -/
namespace Go.Proofs.YtmfaipklhkgieaaGreat
namespace Fp
theorem Nm.mul {p : Int} {n m : Nat} {F G : Nat → Int} (hp : 0 < p) (hG : Nm p m G) (hs : n + m ≤ 4096) : Nm p (tl (pr p F G n) (n + m - 1)) (pr p F G n) :=
  ⟨by have := tl_le (pr p F G n) (n + m - 1); omega, fun _ => ⟨Int.emod_nonneg _ (by omega), Int.emod_lt_of_pos _ hp⟩, tl_behind fun i hi => by
    unfold pr
    rw [cv_top hG.z (by omega), Int.zero_emod], tl_tl _ _⟩
theorem Nm.add {p b : Int} {n m : Nat} {F G : Nat → Int} (hp : 0 < p) (hF : Nm p n F) (hG : Nm p m G) : Nm p (tl (sm p b F G) (max n m)) (sm p b F G) :=
  ⟨by have := tl_le (sm p b F G) (max n m); have := hF.n4; have := hG.n4; omega, fun _ => ⟨Int.emod_nonneg _ (by omega), Int.emod_lt_of_pos _ hp⟩, tl_behind (sm_behind hF.z hG.z), tl_tl _ _⟩
theorem Nm.sc {p k : Int} {n : Nat} {F : Nat → Int} (hp : 0 < p) (hF : Nm p n F) : Nm p (tl (Fp.sc p k F) n) (Fp.sc p k F) :=
  ⟨by have := tl_le (Fp.sc p k F) n; have := hF.n4; omega, sc_range hp, tl_behind (sc_behind hF.z), tl_tl _ _⟩
/-- The quotient, 0 behind its end. -/
noncomputable def qt (p : Int) (n m : Nat) (F G : Nat → Int) (i : Nat) : Int := if i < n + 1 - m then dq p (inv (G (m - 1)) p) m (n + 1 - m) F G i else 0
theorem Nm.quo {p : Int} {n m : Nat} {F G : Nat → Int} (hp : md p) (hF : Nm p n F) (hG : Nm p m G) (hm : 0 < m) : Nm p (n + 1 - m) (qt p n m F G) := by
  have hp0 : 0 < p := by have := hp.1; omega
  have := hF.n4
  refine ⟨by omega, fun i => ?_, fun j hj => ?_, ?_⟩
  · unfold qt
    split
    · exact dq_range hp0 i
    · omega
  · unfold qt; rw [if_neg (by omega)]
  · refine tl_full fun h => ?_
    unfold qt
    rw [if_pos (by omega), show n + 1 - m - 1 = n - m by omega]
    refine dq_lead hm (by omega) hF.r (hF.l (by omega)) (inv_spec hp ?_)
    rw [Int.emod_eq_of_lt (hG.r _).1 (hG.r _).2]
    have := (hG.r (m - 1)).1
    have := hG.l hm
    omega
/-- Dividend, divisor, quotient and rest, as whole sums. -/
theorem Nm.div {p : Int} {n m : Nat} {F G : Nat → Int} (hp : md p) (hF : Nm p n F) (hG : Nm p m G) (hm : 0 < m) (k : Nat) : (cf (qt p n m F G) G k + rs p n m F G k) % p = F k := by
  have h := div_all (p := p) (b := inv (G (m - 1)) p) (m := m) (N := n + 1 - m) (F := F) (G := G) hF.r hG.z k
  rw [← cv_cf (hF.quo hp hG hm).z]
  have e : ∀ (i : Nat), i ≤ n + 1 - m → cv (qt p n m F G) G i k = cv (dq p (inv (G (m - 1)) p) m (n + 1 - m) F G) G i k := by
    intro i
    induction i with
    | zero => exact fun _ => rfl
    | succ i ih =>
      intro hi
      show cv _ G i k + _ = cv _ G i k + _
      rw [ih (by omega)]
      rw [show qt p n m F G i = dq p (inv (G (m - 1)) p) m (n + 1 - m) F G i by unfold qt; rw [if_pos (by omega)]]
  rw [e _ (Nat.le_refl _)]
  exact h
end Fp
end Go.Proofs.YtmfaipklhkgieaaGreat
/- A block of one's own that becomes a closed list. -/
namespace Go.Proofs.YtmfaipklhkgieaaGreat
open Go.RowKit
/-- The block k is shut: every slot that names it reads as a closed list from then on. -/
theorem Weak.shut {m0 : Nat} {tm : Nat → V} {bl : List Blk} (k : Nat) {B : Blk} (hB : bl[k]? = some B) (h0 : B.st = 0) (hcl : ∀ i j, i < B.n → j < B.sz → (B.f i j).clos = true) :
    Weak m0 ⟨tm, bl⟩ ⟨fun t => St.close (bl.set k { B with st := 1 }) (tm t), bl.set k { B with st := 1 }⟩ :=
  (Weak.freeze k hB h0 hcl).trans (Weak.close (closeds_refl _ _) fun _ => .inr rfl)
namespace Fp
theorem qt_eq {p : Int} {n m : Nat} {F G : Nat → Int} {i : Nat} (h : i < n + 1 - m) : dq p (inv (G (m - 1)) p) m (n + 1 - m) F G i = qt p n m F G i := (if_pos h).symm
/-- A division of lists in normal form. -/
theorem divide_nm {p : Int} {n m : Nat} {F G : Nat → Int} (hp : md p) (hF : Nm p n F) (hG : Nm p m G) (hm : 0 < m) : FnOK Tryz.prog false 49 [.c (.int .i64 p), .c (il n F), .c (il m G)] (.t2 (.c (il (n + 1 - m) (qt p n m F G))) (.c (il (tl (rs p n m F G) n) (rs p n m F G)))) :=
  sub_ok (divide_all hp hF.n4 hm hF.r hG.r (hG.l hm) hF.t) (subT2 (subRow rfl fun _ h => qt_eq h) (Sub.refl _))
theorem refDivide_nm {p : Int} {n m : Nat} {F G : Nat → Int} (hp : md p) (hF : Nm p n F) (hG : Nm p m G) (hm : 0 < m) : FnOK Tryz.prog false 29 [.c (.int .i64 p), .c (il n F), .c (il m G)] (.t2 (.c (il (n + 1 - m) (qt p n m F G))) (.c (il (tl (rs p n m F G) n) (rs p n m F G)))) := by
  have hq := hF.quo hp hG hm
  have hr := (hF.rest hp hG hm).1
  have e1 : ∀ i, nf p (n + 1 - m) (dq p (inv (G (m - 1)) p) m (n + 1 - m) F G) i = qt p n m F G i := fun i => by
    unfold nf qt
    by_cases h : i < n + 1 - m
    · rw [if_pos h, if_pos h]
      have := dq_range (p := p) (b := inv (G (m - 1)) p) (m := m) (N := n + 1 - m) (F := F) (G := G) (by have := hp.1; omega) i
      exact Int.emod_eq_of_lt this.1 this.2
    · rw [if_neg h, if_neg h]
  have e2 : nf p n (rs p n m F G) = rs p n m F G := nf_self hr.r fun j hj => hr.z j (by have := tl_le (rs p n m F G) n; omega)
  have e3 : nf p n (dn p (inv (G (m - 1)) p) m (n + 1 - m) F G (n + 1 - m)) = rs p n m F G := e2
  refine sub_ok (refDivide_all hp hF.n4 hG.n4 (nf_self hF.r hF.z) (nf_self hG.r hG.z) hF.t hG.t hm hF.r hG.r (hG.l hm) hF.t) (subT2 (subRow ?_ fun i _ => e1 i) ?_)
  · rw [tl_congr fun i _ => e1 i]
    exact hq.t
  · rw [e3]
    exact Sub.refl _
end Fp
end Go.Proofs.YtmfaipklhkgieaaGreat
