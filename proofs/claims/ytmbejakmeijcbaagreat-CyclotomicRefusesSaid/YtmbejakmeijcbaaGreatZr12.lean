/- Fractions as abstract values, and package rational in those words. -/
import Derived.Test.YtmbejakmeijcbaaGreatZr11
import Derived.Test.YtmbejakmeijcbaaGreatZr9
import Derived.Test.YtmbejakmeijcbaaGreatZr8
import Derived.Test.YtmbejakmeijcbaaGreatZr5
namespace Go.Proofs.YtmbejakmeijcbaaGreat
open Go.RowKit
structure RawR where
 num : RawZ
 den : RawZ
def RawR.val (q : RawR) : Rat := ratio q.num.val q.den.val
def rr (q : RawR) : List Cell := [.bool q.num.neg, dsC q.num.ds, .bool q.den.neg, dsC q.den.ds]
def ofR (x : Rat) : RawR := ⟨ofZ x.num, ofZ x.den⟩
abbrev nq (x : Rat) : List Cell := rr (ofR x)
structure RawR.Fit (q : RawR) (L : Nat) : Prop where
 num : Dg.ok q.num.ds
 den : Dg.ok q.den.ds
 numL : q.num.ds.length ≤ L
 denL : q.den.ds.length ≤ L
theorem ofR_val (x : Rat) : (ofR x).val = x := by
 unfold RawR.val ofR; simp only [ofZ_val]; exact ratio_num_den x
def qlen (x : Rat) : Nat := max (zlen x.num) (zlen x.den)
theorem ofR_fit {x : Rat} {L : Nat} (h : qlen x ≤ L) : (ofR x).Fit L := by
 unfold qlen at h
 exact ⟨ofZ_ok _, ofZ_ok _, by rw [ofR, ofZ_len]; omega, by rw [ofR, ofZ_len]; omega⟩
theorem ofZ_one : ofZ 1 = ⟨false, [1]⟩ := rfl
theorem zlen_eq_zero {x : Int} : zlen x = 0 ↔ x = 0 := by
 unfold zlen
 rw [List.length_eq_zero_iff]
 constructor
 ·intro h
  have := digs_val x.natAbs
  rw [h] at this
  simp [Dg.val] at this
  omega
 ·intro h; subst h; rfl
theorem ofZ_inj {x y : Int} (h : ofZ x = ofZ y) : x = y := by rw [← ofZ_val x, h, ofZ_val]
def SubC (x y : Cell) : Prop := ∀ D w v, CRel D w [] x v → CRel D w [] y v
theorem SubC.refl (x : Cell) : SubC x x := fun _ _ _ h => h
theorem SubC.nil (sz : Nat) (f : Nat → Nat → Cell) : SubC .nil (.row sz 0 f) := fun D w v h => by
 have h : v = .slice none 0 0 := h
 exact ⟨none, 0, h, Nat.le_refl _, fun h => by omega⟩
theorem Sub.cells {l l' : List Cell} (hl : l.length = l'.length) (h : ∀ (i : Nat) x y, l[i]? = some x → l'[i]? = some y → SubC x y) : Sub (.g l) (.g l') := by
 intro D w v hv
 obtain ⟨vs, rfl, h2⟩ := hv
 refine ⟨vs, rfl, CRels.of _ _ (by rw [← hl]; exact h2.length) fun i y v hy hv => ?_⟩
 obtain ⟨x, hx⟩ : ∃ x, l[i]? = some x := ⟨_, List.getElem?_eq_getElem (by rw [hl]; exact (List.getElem?_eq_some_iff.1 hy).1)⟩
 obtain ⟨v', hv', hr⟩ := h2.get i x hx
 rw [hv] at hv'; cases hv'
 exact h i x y hx hy D w _ hr
theorem Sub.bool {a b : Bool} (h : a = b) : Sub (.c (.bool a)) (.c (.bool b)) := by subst h; exact Sub.refl _
set_option maxHeartbeats 1000000 in
theorem one_ok {a : RawZ} : FnOK Tryz.prog true 135 [.g (zr a)] (.c (.bool (decide (a.ds = [1] ∧ a.neg = false)))) := by
 refine fn_ok (E := E1) E1_ok Tryz.func135 rfl mixed (by kernel_rfl) (by kernel_rfl) ?_
 conv => whnf
 refine bcase (fun (h : decide ((a.ds.length : Int) = 1) = true) => ?_) fun (h : decide ((a.ds.length : Int) = 1) = false) => ?_
 ·have hl : a.ds.length = 1 := by have h := of_decide_eq_true h; omega
  obtain ⟨x, hx⟩ := List.length_eq_one_iff.1 hl
  conv => whnf
  refine ⟨by omega, by omega, ?_⟩
  conv => whnf
  refine bcase (fun (h2 : decide (((a.ds.getD 0 0 : Nat) : Int) = 1) = true) => ?_) fun (h2 : decide (((a.ds.getD 0 0 : Nat) : Int) = 1) = false) => ?_
  ·conv => whnf
   refine ⟨rfl, Sub.bool ?_⟩
   have h2 := of_decide_eq_true h2
   rw [hx] at h2 ⊢
   simp at h2
   have : x = 1 := by omega
   subst this
   cases a.neg <;> rfl
  ·conv => whnf
   refine ⟨rfl, Sub.bool (decide_eq_false ?_).symm⟩
   rintro ⟨e, _⟩
   rw [e] at h2; exact absurd h2 (by decide)
 ·conv => whnf
  refine ⟨rfl, Sub.bool (decide_eq_false ?_).symm⟩
  rintro ⟨e, _⟩
  rw [e] at h; exact absurd h (by decide)
theorem one_nz {x : Int} : decide ((ofZ x).ds = [1] ∧ (ofZ x).neg = false) = decide (x = 1) := by
 congr 1
 apply propext
 constructor
 ·rintro ⟨h1, h2⟩
  refine ofZ_inj (y := 1) ?_
  rw [ofZ_one]
  exact (by rw [← h1, ← h2] : ofZ x = ⟨false, [1]⟩)
 ·rintro rfl; exact ⟨rfl, rfl⟩
theorem one_nz_ok (x : Int) : FnOK Tryz.prog true 135 [.g (nz x)] (.c (.bool (decide (x = 1)))) := one_nz ▸ one_ok (a := ofZ x)
theorem zlen_small (x : Int) {a : RawZ} (h : x = a.val) (ha : Dg.ok a.ds) : zlen x ≤ a.ds.length := by
 refine zlen_le ?_
 have := Dg.val_lt ha
 rw [h]; unfold RawZ.val sgn; cases a.neg <;> simpa using this
theorem leaf {x : Rat} {n d : Int} (e : ofR x = ⟨ofZ n, ofZ d⟩) : Sub (.g (rr ⟨ofZ n, ofZ d⟩)) (.g (nq x)) := by
 unfold nq; rw [e]; exact Sub.refl _
theorem leaf0 {x : Rat} (e : x = 0) : Sub (.g [.bool false, .nil, .bool (ofZ 1).neg, dsC (ofZ 1).ds]) (.g (nq x)) := by
 subst e
 refine Sub.cells rfl fun i x y hx hy => ?_
 match i, hx, hy with
 | 0, hx, hy => cases hx; cases hy; exact SubC.refl _
 | 1, hx, hy => cases hx; cases hy; exact SubC.nil _ _
 | 2, hx, hy => cases hx; cases hy; exact SubC.refl _
 | 3, hx, hy => cases hx; cases hy; exact SubC.refl _
 | i + 4, hx, hy => simp at hx
theorem parts_one {n d : Int} (h : d = 1) : ofR (ratio n d) = ⟨ofZ n, ofZ d⟩ := by
 subst h
 rw [ratio_one]; unfold ofR; simp
theorem parts {n d : Int} (hd : 0 < d) : ofR (ratio n d) = ⟨ofZ (n / (Nat.gcd n.natAbs d.natAbs : Nat)), ofZ (d / (Nat.gcd n.natAbs d.natAbs : Nat))⟩ := by
 obtain ⟨k, rfl⟩ := Int.eq_ofNat_of_zero_le (show 0 ≤ d by omega)
 obtain ⟨h1, h2⟩ := ratio_parts (n := n) (d := k) (by omega)
 unfold ofR
 rw [h1, h2]
 simp [Int.gcd]
theorem gcd_ne {n d : Int} (hd : 0 < d) : ((Nat.gcd n.natAbs d.natAbs : Nat) : Int) ≠ 0 := by
 have := Nat.gcd_pos_of_pos_right n.natAbs (show 0 < d.natAbs by omega)
 omega
theorem gcd_le_right {n d : Int} (hd : 0 < d) : ((Nat.gcd n.natAbs d.natAbs : Nat) : Int).natAbs ≤ d.natAbs := by
 rw [Int.natAbs_natCast]
 exact Nat.gcd_le_right _ (by omega)
theorem gcd_dvd1 (n d : Int) : n % (Nat.gcd n.natAbs d.natAbs : Nat) = 0 := Int.emod_eq_zero_of_dvd (Int.ofNat_dvd_left.2 (Nat.gcd_dvd_left _ _))
theorem gcd_dvd2 (n d : Int) : d % (Nat.gcd n.natAbs d.natAbs : Nat) = 0 := Int.emod_eq_zero_of_dvd (Int.ofNat_dvd_left.2 (Nat.gcd_dvd_right _ _))
set_option maxHeartbeats 4000000 in
theorem over_ok {a b : RawZ} (ha : Dg.ok a.ds) (hb : Dg.ok b.ds) (h1 : a.ds.length + 3 ≤ LIM) (h2 : b.ds.length + 3 ≤ LIM) : FnOK Tryz.prog true 138 [.g (zr a), .g (zr b)] (.g (nq (ratio a.val b.val))) := by
 have hza := zlen_small a.val rfl ha
 have hzb := zlen_small b.val rfl hb
 refine fn_ok (E := E1) E1_ok Tryz.func138 rfl mixed (by kernel_rfl) (by kernel_rfl) ?_
 conv => whnf
 refine ⟨_, normal_ok (a := a) ha (by omega), ?_⟩
 conv => whnf
 refine ⟨_, normal_ok (a := b) hb (by omega), ?_⟩
 conv => whnf
 refine bcase (fun h => ?_) fun h => ?_
 ·have h : decide ((zlen b.val : Int) = 0) = false := gwf h
  have hb0 : b.val ≠ 0 := fun e => by rw [zlen_eq_zero.2 e] at h; exact absurd h (by decide)
  conv => whnf
  refine bcase (fun (h : decide ((zlen a.val : Int) = 0) = true) => ?_) fun (h : decide ((zlen a.val : Int) = 0) = false) => ?_
  ·conv => whnf
   refine ⟨_, of_ok (x := 1) (by omega) (by omega), ?_⟩
   conv => whnf
   refine ⟨rfl, leaf0 ?_⟩
   have := of_decide_eq_true h
   rw [(zlen_eq_zero (x := a.val)).1 (by omega)]; exact ratio_zero_left _
  ·conv => whnf
   refine bcase (fun (h : decide (b.val < 0) = true) => ?_) fun (h : decide (b.val < 0) = false) => ?_
   ·have hneg := of_decide_eq_true h
    have hpos : 0 < -b.val := by omega
    have hr := (ratio_neg a.val b.val).symm
    have hza := zlen_neg a.val
    have hzb := zlen_neg b.val
    conv => whnf
    refine ⟨_, neg_nz a.val (by omega), ?_⟩
    conv => whnf
    refine ⟨_, neg_nz b.val (by omega), ?_⟩
    conv => whnf
    refine ⟨_, one_nz_ok (-b.val), ?_⟩
    conv => whnf
    refine bcase (fun (h : decide ((-b.val) = 1) = true) => ?_) fun (h : decide ((-b.val) = 1) = false) => ?_
    ·conv => whnf
     refine ⟨rfl, leaf ?_⟩
     rw [hr]; exact parts_one (of_decide_eq_true h)
    ·have hd1 : (-b.val) ≠ 1 := of_decide_eq_false h
     conv => whnf
     refine ⟨_, gcd_nz (-a.val) (-b.val) (by omega) (by omega), ?_⟩
     conv => whnf
     refine ⟨_, one_nz_ok _, ?_⟩
     conv => whnf
     refine bcase (fun (h : (!decide (((Nat.gcd (-a.val).natAbs (-b.val).natAbs : Nat) : Int) = 1)) = true) => ?_) fun (h : (!decide (((Nat.gcd (-a.val).natAbs (-b.val).natAbs : Nat) : Int) = 1)) = false) => ?_
     ·conv => whnf
      refine ⟨_, exact_nz (-a.val) (Nat.gcd (-a.val).natAbs (-b.val).natAbs : Nat) (by omega) (by have := zlen_natAbs_le (x := (Nat.gcd (-a.val).natAbs (-b.val).natAbs : Nat)) (y := -b.val) (gcd_le_right hpos); omega) (gcd_ne hpos) (gcd_dvd1 _ _), ?_⟩
      conv => whnf
      refine ⟨_, exact_nz (-b.val) (Nat.gcd (-a.val).natAbs (-b.val).natAbs : Nat) (by omega) (by have := zlen_natAbs_le (x := (Nat.gcd (-a.val).natAbs (-b.val).natAbs : Nat)) (y := -b.val) (gcd_le_right hpos); omega) (gcd_ne hpos) (gcd_dvd2 _ _), ?_⟩
      conv => whnf
      refine ⟨rfl, leaf ?_⟩
      rw [hr]; exact parts hpos
     ·have h : ((Nat.gcd (-a.val).natAbs (-b.val).natAbs : Nat) : Int) = 1 := by simpa using h
      conv => whnf
      refine ⟨rfl, leaf ?_⟩
      rw [hr, parts hpos, h]; simp
   ·have hneg := of_decide_eq_false h
    have hpos : 0 < b.val := by omega
    have hr : ratio a.val b.val = ratio a.val b.val := rfl
    conv => whnf
    refine ⟨_, one_nz_ok (b.val), ?_⟩
    conv => whnf
    refine bcase (fun (h : decide ((b.val) = 1) = true) => ?_) fun (h : decide ((b.val) = 1) = false) => ?_
    ·conv => whnf
     refine ⟨rfl, leaf ?_⟩
     rw [hr]; exact parts_one (of_decide_eq_true h)
    ·have hd1 : (b.val) ≠ 1 := of_decide_eq_false h
     conv => whnf
     refine ⟨_, gcd_nz (a.val) (b.val) (by omega) (by omega), ?_⟩
     conv => whnf
     refine ⟨_, one_nz_ok _, ?_⟩
     conv => whnf
     refine bcase (fun (h : (!decide (((Nat.gcd (a.val).natAbs (b.val).natAbs : Nat) : Int) = 1)) = true) => ?_) fun (h : (!decide (((Nat.gcd (a.val).natAbs (b.val).natAbs : Nat) : Int) = 1)) = false) => ?_
     ·conv => whnf
      refine ⟨_, exact_nz (a.val) (Nat.gcd (a.val).natAbs (b.val).natAbs : Nat) (by omega) (by have := zlen_natAbs_le (x := (Nat.gcd (a.val).natAbs (b.val).natAbs : Nat)) (y := b.val) (gcd_le_right hpos); omega) (gcd_ne hpos) (gcd_dvd1 _ _), ?_⟩
      conv => whnf
      refine ⟨_, exact_nz (b.val) (Nat.gcd (a.val).natAbs (b.val).natAbs : Nat) (by omega) (by have := zlen_natAbs_le (x := (Nat.gcd (a.val).natAbs (b.val).natAbs : Nat)) (y := b.val) (gcd_le_right hpos); omega) (gcd_ne hpos) (gcd_dvd2 _ _), ?_⟩
      conv => whnf
      refine ⟨rfl, leaf ?_⟩
      rw [hr]; exact parts hpos
     ·have h : ((Nat.gcd (a.val).natAbs (b.val).natAbs : Nat) : Int) = 1 := by simpa using h
      conv => whnf
      refine ⟨rfl, leaf ?_⟩
      rw [hr, parts hpos, h]; simp
 ·have h : decide ((zlen b.val : Int) = 0) = true := gwf' h
  conv => whnf
  refine ⟨_, of_ok (x := 1) (by omega) (by omega), ?_⟩
  conv => whnf
  refine ⟨rfl, leaf0 ?_⟩
  have := of_decide_eq_true h
  rw [(zlen_eq_zero (x := b.val)).1 (by omega)]; exact ratio_zero_right _
end Go.Proofs.YtmbejakmeijcbaaGreat
/- Package rational in abstract words: the operations. -/
namespace Go.Proofs.YtmbejakmeijcbaaGreat
open Go.RowKit
theorem over_eq {a b : RawZ} {x : Rat} (hx : ratio a.val b.val = x) (ha : Dg.ok a.ds) (hb : Dg.ok b.ds) (h1 : a.ds.length + 3 ≤ LIM) (h2 : b.ds.length + 3 ≤ LIM) : FnOK Tryz.prog true 138 [.g (zr a), .g (zr b)] (.g (nq x)) := by
 subst hx; exact over_ok ha hb h1 h2
theorem qlen_ratio {n d : Int} {L : Nat} (hn : zlen n ≤ L) (hd : zlen d ≤ L) (h1 : 1 ≤ L) : qlen (ratio n d) ≤ L := by
 have z1 : zlen 1 = 1 := rfl
 have key : ∀ (n d : Int), 0 < d → zlen n ≤ L → zlen d ≤ L → qlen (ratio n d) ≤ L := by
  intro n d h0 hn hd
  obtain ⟨k, rfl⟩ := Int.eq_ofNat_of_zero_le (show 0 ≤ d by omega)
  obtain ⟨g1, g2⟩ := ratio_small (n := n) (d := k) (by omega)
  have e1 := zlen_natAbs_le g1
  have e2 := zlen_natAbs_le (x := ((ratio n k).den : Int)) (y := (k : Int)) (by omega)
  unfold qlen; omega
 rcases Int.lt_trichotomy d 0 with h | h | h
 ·rw [← ratio_neg]
  exact key _ _ (by omega) (by rw [zlen_neg]; exact hn) (by rw [zlen_neg]; exact hd)
 ·subst h
  rw [ratio_zero_right]
  show max (zlen 0) (zlen 1) ≤ L
  rw [z1, zlen_eq_zero.2 rfl]; omega
 ·exact key _ _ h hn hd
theorem RawR.Fit.zn {q : RawR} {L : Nat} (h : q.Fit L) : zlen q.num.val ≤ L := Nat.le_trans (zlen_small _ rfl h.num) h.numL
theorem RawR.Fit.zd {q : RawR} {L : Nat} (h : q.Fit L) : zlen q.den.val ≤ L := Nat.le_trans (zlen_small _ rfl h.den) h.denL
theorem RawR.Fit.qlen {q : RawR} {L : Nat} (h : q.Fit L) (h1 : 1 ≤ L) : qlen q.val ≤ L := qlen_ratio h.zn h.zd h1
set_option maxHeartbeats 2000000 in
theorem qnormal_ok {q : RawR} {L : Nat} (h : q.Fit L) (hL : L + 3 ≤ LIM) : FnOK Tryz.prog true 134 [.g (rr q)] (.g (nq q.val)) := by
 obtain ⟨h1, h2, h3, h4⟩ := h
 refine fn_ok (E := E1) E1_ok Tryz.func134 rfl mixed (by kernel_rfl) (by kernel_rfl) ?_
 conv => whnf
 refine ⟨_, over_ok (a := q.num) (b := q.den) h1 h2 (by omega) (by omega), ?_⟩
 conv => whnf
 exact ⟨rfl, Sub.refl _⟩
set_option maxHeartbeats 2000000 in
theorem qof_ok {n : Int} (h0 : -9223372036854775808 ≤ n) (h1 : n ≤ 9223372036854775807) : FnOK Tryz.prog true 44 [.c (.int .i64 n)] (.g (nq n)) := by
 refine fn_ok (E := E1) E1_ok Tryz.func44 rfl mixed (by kernel_rfl) (by kernel_rfl) ?_
 conv => whnf
 refine ⟨_, of_ok (x := n) h0 h1, ?_⟩
 conv => whnf
 refine ⟨_, of_ok (x := 1) (by omega) (by omega), ?_⟩
 conv => whnf
 refine ⟨rfl, leaf (x := (n : Rat)) (n := n) (d := 1) ?_⟩
 unfold ofR; simp
theorem Sub.int {k : IntKind} {a b : Int} (h : a = b) : Sub (.c (.int k a)) (.c (.int k b)) := by subst h; exact Sub.refl _
theorem sign_range (a b : Int) : inR .i64 (a.sign * b.sign) := by
 have h : ∀ a : Int, a.sign = -1 ∨ a.sign = 0 ∨ a.sign = 1 := fun a => by
  rcases Int.lt_trichotomy a 0 with h | h | h
  ·exact .inl (Int.sign_eq_neg_one_of_neg h)
  ·subst h; exact .inr (.inl rfl)
  ·exact .inr (.inr (Int.sign_eq_one_of_pos h))
 rcases h a with e | e | e <;> rcases h b with e' | e' | e' <;> rw [e, e'] <;> exact ⟨by omega, by omega⟩
set_option maxHeartbeats 2000000 in
theorem qsign_ok {q : RawR} {L : Nat} (h : q.Fit L) (hL : L + 3 ≤ LIM) : FnOK Tryz.prog true 109 [.g (rr q)] (.c (.int .i64 q.val.num.sign)) := by
 obtain ⟨h1, h2, h3, h4⟩ := h
 refine fn_ok (E := E1) E1_ok Tryz.func109 rfl mixed (by kernel_rfl) (by kernel_rfl) ?_
 conv => whnf
 refine ⟨_, sign_ok (a := q.num) h1 (by omega), ?_⟩
 conv => whnf
 refine ⟨_, sign_ok (a := q.den) h2 (by omega), ?_⟩
 conv => whnf
 refine ⟨sign_range _ _, ?_⟩
 conv => whnf
 refine ⟨rfl, Sub.int (ratio_sign _ _).symm⟩
set_option maxHeartbeats 2000000 in
theorem qneg_ok {q : RawR} {L : Nat} (h : q.Fit L) (hL : L + 3 ≤ LIM) : FnOK Tryz.prog true 145 [.g (rr q)] (.g (nq (-q.val))) := by
 have hz := h.zn
 obtain ⟨h1, h2, h3, h4⟩ := h
 refine fn_ok (E := E1) E1_ok Tryz.func145 rfl mixed (by kernel_rfl) (by kernel_rfl) ?_
 conv => whnf
 refine ⟨_, neg_ok (a := q.num) h1 (by omega), ?_⟩
 conv => whnf
 refine ⟨_, over_eq (a := ofZ (-q.num.val)) (b := q.den) (x := -q.val) (by rw [ofZ_val]; exact ratio_neg_left _ _) (ofZ_ok _) h2 (by rw [ofZ_len, zlen_neg]; omega) (by omega), ?_⟩
 conv => whnf
 exact ⟨rfl, Sub.refl _⟩
set_option maxHeartbeats 2000000 in
theorem qmul_ok {q p : RawR} {L L' : Nat} (h : q.Fit L) (h' : p.Fit L') (hL : L + L' + 3 ≤ LIM) : FnOK Tryz.prog true 192 [.g (rr q), .g (rr p)] (.g (nq (q.val * p.val))) := by
 have z1 := h.zn
 have z2 := h.zd
 have z3 := h'.zn
 have z4 := h'.zd
 have y1 := zlen_mul q.num.val p.num.val
 have y2 := zlen_mul q.den.val p.den.val
 obtain ⟨h1, h2, h3, h4⟩ := h
 obtain ⟨g1, g2, g3, g4⟩ := h'
 refine fn_ok (E := E1) E1_ok Tryz.func192 rfl mixed (by kernel_rfl) (by kernel_rfl) ?_
 conv => whnf
 refine ⟨_, mul_ok (a := q.num) (b := p.num) h1 g1 (by omega), ?_⟩
 conv => whnf
 refine ⟨_, mul_ok (a := q.den) (b := p.den) h2 g2 (by omega), ?_⟩
 conv => whnf
 refine ⟨_, over_eq (a := ofZ (q.num.val * p.num.val)) (b := ofZ (q.den.val * p.den.val)) (x := q.val * p.val) (by rw [ofZ_val, ofZ_val]; exact (ratio_mul _ _ _ _).symm) (ofZ_ok _) (ofZ_ok _) (by rw [ofZ_len]; omega) (by rw [ofZ_len]; omega), ?_⟩
 conv => whnf
 exact ⟨rfl, Sub.refl _⟩
theorem leaf1 {x : Rat} {n : Int} (e : x = n) : Sub (.g (rr ⟨ofZ n, ofZ 1⟩)) (.g (nq x)) := by
 subst e
 exact leaf (by unfold ofR; simp)
theorem RawZ.one_val {a : RawZ} (h : a.ds = [1] ∧ a.neg = false) : a.val = 1 := by unfold RawZ.val; rw [h.1, h.2]; rfl
set_option maxHeartbeats 4000000 in
theorem qadd_ok {q p : RawR} {L L' : Nat} (h : q.Fit L) (h' : p.Fit L') (hL : L + L' + 4 ≤ LIM) : FnOK Tryz.prog true 92 [.g (rr q), .g (rr p)] (.g (nq (q.val + p.val))) := by
 have z1 := h.zn
 have z2 := h.zd
 have z3 := h'.zn
 have z4 := h'.zd
 have y1 := zlen_mul q.num.val p.den.val
 have y2 := zlen_mul p.num.val q.den.val
 have y3 := zlen_mul q.den.val p.den.val
 have y4 := zlen_add (q.num.val * p.den.val) (p.num.val * q.den.val)
 have k1 := h
 have k2 := h'
 obtain ⟨h1, h2, h3, h4⟩ := h
 obtain ⟨g1, g2, g3, g4⟩ := h'
 refine fn_ok (E := E1) E1_ok Tryz.func92 rfl mixed (by kernel_rfl) (by kernel_rfl) ?_
 conv => whnf
 refine ⟨_, sign_ok (a := q.den) h2 (by omega), ?_⟩
 conv => whnf
 refine bcase (fun (h : decide (q.den.val.sign = 0) = true) => ?_) fun (h : decide (q.den.val.sign = 0) = false) => ?_
 ·conv => whnf
  refine ⟨_, qnormal_ok (q := p) k2 (by omega), ?_⟩
  conv => whnf
  refine ⟨rfl, ?_⟩
  rw [show q.val = 0 by unfold RawR.val; rw [Int.sign_eq_zero_iff_zero.1 (of_decide_eq_true h), ratio_zero_right], Rat.zero_add]
  exact Sub.refl _
 have d1 : q.den.val ≠ 0 := fun e => of_decide_eq_false h (by rw [e]; rfl)
 conv => whnf
 refine ⟨_, sign_ok (a := p.den) g2 (by omega), ?_⟩
 conv => whnf
 refine bcase (fun (h : decide (p.den.val.sign = 0) = true) => ?_) fun (h : decide (p.den.val.sign = 0) = false) => ?_
 ·conv => whnf
  refine ⟨_, qnormal_ok (q := q) k1 (by omega), ?_⟩
  conv => whnf
  refine ⟨rfl, ?_⟩
  rw [show p.val = 0 by unfold RawR.val; rw [Int.sign_eq_zero_iff_zero.1 (of_decide_eq_true h), ratio_zero_right], Rat.add_zero]
  exact Sub.refl _
 have d2 : p.den.val ≠ 0 := fun e => of_decide_eq_false h (by rw [e]; rfl)
 have gen : q.val + p.val = ratio (q.num.val * p.den.val + p.num.val * q.den.val) (q.den.val * p.den.val) := ratio_add d1 d2
 conv => whnf
 refine ⟨_, one_ok (a := q.den), ?_⟩
 conv => whnf
 refine bcase (fun (hq : decide (q.den.ds = [1] ∧ q.den.neg = false) = true) => ?_) fun (hq : decide (q.den.ds = [1] ∧ q.den.neg = false) = false) => ?_
 ·have hq := of_decide_eq_true hq
  conv => whnf
  refine ⟨_, one_ok (a := p.den), ?_⟩
  conv => whnf
  refine bcase (fun (hp : decide (p.den.ds = [1] ∧ p.den.neg = false) = true) => ?_) fun (hp : decide (p.den.ds = [1] ∧ p.den.neg = false) = false) => ?_
  ·have hp := of_decide_eq_true hp
   conv => whnf
   refine ⟨_, add_ok (a := q.num) (b := p.num) h1 g1 (by omega) (by omega), ?_⟩
   conv => whnf
   refine ⟨_, of_ok (x := 1) (by omega) (by omega), ?_⟩
   conv => whnf
   refine ⟨rfl, leaf1 (n := q.num.val + p.num.val) ?_⟩
   rw [gen, RawZ.one_val hq, RawZ.one_val hp, Int.mul_one, Int.mul_one, Int.mul_one, ratio_one]
  ·conv => whnf
   refine ⟨_, mul_ok (a := q.num) (b := p.den) h1 g2 (by omega), ?_⟩
   conv => whnf
   refine ⟨_, mul_ok (a := p.num) (b := q.den) g1 h2 (by omega), ?_⟩
   conv => whnf
   refine ⟨_, add_nz (q.num.val * p.den.val) (p.num.val * q.den.val) (by omega) (by omega), ?_⟩
   conv => whnf
   refine ⟨_, mul_ok (a := q.den) (b := p.den) h2 g2 (by omega), ?_⟩
   conv => whnf
   refine ⟨_, over_eq (a := ofZ (q.num.val * p.den.val + p.num.val * q.den.val)) (b := ofZ (q.den.val * p.den.val)) (x := q.val + p.val) (by rw [ofZ_val, ofZ_val]; exact gen.symm) (ofZ_ok _) (ofZ_ok _) (by rw [ofZ_len]; omega) (by rw [ofZ_len]; omega), ?_⟩
   conv => whnf
   exact ⟨rfl, Sub.refl _⟩
 ·conv => whnf
  refine ⟨_, mul_ok (a := q.num) (b := p.den) h1 g2 (by omega), ?_⟩
  conv => whnf
  refine ⟨_, mul_ok (a := p.num) (b := q.den) g1 h2 (by omega), ?_⟩
  conv => whnf
  refine ⟨_, add_nz (q.num.val * p.den.val) (p.num.val * q.den.val) (by omega) (by omega), ?_⟩
  conv => whnf
  refine ⟨_, mul_ok (a := q.den) (b := p.den) h2 g2 (by omega), ?_⟩
  conv => whnf
  refine ⟨_, over_eq (a := ofZ (q.num.val * p.den.val + p.num.val * q.den.val)) (b := ofZ (q.den.val * p.den.val)) (x := q.val + p.val) (by rw [ofZ_val, ofZ_val]; exact gen.symm) (ofZ_ok _) (ofZ_ok _) (by rw [ofZ_len]; omega) (by rw [ofZ_len]; omega), ?_⟩
  conv => whnf
  exact ⟨rfl, Sub.refl _⟩
theorem qlen_neg (x : Rat) : qlen (-x) = qlen x := by unfold qlen; simp [zlen_neg]
set_option maxHeartbeats 4000000 in
theorem qsub_ok {q p : RawR} {L L' : Nat} (h : q.Fit L) (h' : p.Fit L') (h0 : 1 ≤ L') (hL : L + L' + 4 ≤ LIM) : FnOK Tryz.prog true 110 [.g (rr q), .g (rr p)] (.g (nq (q.val - p.val))) := by
 have hn := qlen_neg p.val
 have hq := h'.qlen h0
 refine fn_ok (E := E1) E1_ok Tryz.func110 rfl mixed (by kernel_rfl) (by kernel_rfl) ?_
 conv => whnf
 refine ⟨_, qneg_ok (q := p) h' (by omega), ?_⟩
 conv => whnf
 refine ⟨_, qadd_ok (q := q) (p := ofR (-p.val)) h (ofR_fit (L := L') (by omega)) hL, ?_⟩
 conv => whnf
 refine ⟨rfl, ?_⟩
 rw [ofR_val, ← Rat.sub_eq_add_neg]
 exact Sub.refl _
set_option maxHeartbeats 4000000 in
theorem qquo_ok {q p : RawR} {L L' : Nat} (h : q.Fit L) (h' : p.Fit L') (hL : L + L' + 4 ≤ LIM) (hp : p.val ≠ 0) : FnOK Tryz.prog true 204 [.g (rr q), .g (rr p)] (.t2 (.g (nq (q.val / p.val))) (.c (.int .i64 0))) := by
 have z1 := h.zn
 have z2 := h.zd
 have z3 := h'.zn
 have z4 := h'.zd
 have y1 := zlen_mul q.num.val p.den.val
 have y2 := zlen_mul q.den.val p.num.val
 have k2 := h'
 obtain ⟨h1, h2, h3, h4⟩ := h
 obtain ⟨g1, g2, g3, g4⟩ := h'
 refine fn_ok (E := E1) E1_ok Tryz.func204 rfl mixed (by kernel_rfl) (by kernel_rfl) ?_
 conv => whnf
 refine ⟨_, qsign_ok (q := p) k2 (by omega), ?_⟩
 conv => whnf
 refine bcase (fun (h : decide (p.val.num.sign = 0) = true) => ?_) fun h => ?_
 ·exact absurd ((rat_sign_zero _).1 (of_decide_eq_true h)) hp
 conv => whnf
 refine ⟨_, mul_ok (a := q.num) (b := p.den) h1 g2 (by omega), ?_⟩
 conv => whnf
 refine ⟨_, mul_ok (a := q.den) (b := p.num) h2 g1 (by omega), ?_⟩
 conv => whnf
 refine ⟨_, over_eq (a := ofZ (q.num.val * p.den.val)) (b := ofZ (q.den.val * p.num.val)) (x := q.val / p.val) (by rw [ofZ_val, ofZ_val]; exact (ratio_div _ _ _ _).symm) (ofZ_ok _) (ofZ_ok _) (by rw [ofZ_len]; omega) (by rw [ofZ_len]; omega), ?_⟩
 conv => whnf
 exact ⟨rfl, Sub.refl _⟩
end Go.Proofs.YtmbejakmeijcbaaGreat
/- The document's fractions. -/
namespace Go.Proofs.YtmbejakmeijcbaaGreat
open Go.RowKit
namespace Rf
end Rf
end Go.Proofs.YtmbejakmeijcbaaGreat
/- Lists of large integers, raw and normalized, and the document's functions of layer 5 that a field's form asks for. -/
namespace Go.Proofs.YtmbejakmeijcbaaGreat
open Go.RowKit
abbrev zlF (c : Nat → RawZ) (i j : Nat) : Cell := (zr (c i)).getD j .any
abbrev zl (n : Nat) (c : Nat → RawZ) : Cell := .row 2 n (zlF c)
abbrev nl (n : Nat) (v : Nat → Int) : Cell := zl n fun i => ofZ (v i)
def tl (a : Nat → Int) : Nat → Nat
 | 0 => 0
 | n + 1 => if a n = 0 then tl a n else n + 1
theorem tl_le (a : Nat → Int) : ∀ n, tl a n ≤ n
 | 0 => Nat.le_refl _
 | n + 1 => by
  unfold tl
  split
  ·exact Nat.le_succ_of_le (tl_le a n)
  ·exact Nat.le_refl _
theorem tl_top {a : Nat → Int} : ∀ {n k : Nat}, tl a n = k + 1 → a k ≠ 0
 | 0, k, h => by simp [tl] at h
 | n + 1, k, h => by
  unfold tl at h
  split at h
  ·exact tl_top h
  ·rename_i h0
   obtain rfl : n = k := by omega
   exact h0
theorem tl_self {a : Nat → Int} {n : Nat} (h : ∀ k, n = k + 1 → a k ≠ 0) : tl a n = n := by
 cases n with
 | zero => rfl
 | succ k => unfold tl; rw [if_neg (h k rfl)]
theorem tl_tl (a : Nat → Int) (n : Nat) : tl a (tl a n) = tl a n := tl_self fun _ hk => tl_top hk
theorem zlF_eq {c e : Nat → RawZ} {i j k : Nat} (h : c i = e k) : zlF c i j = zlF e k j := by unfold zlF; rw [h]
namespace Rf
def wl (n : Nat) (c : Nat → RawZ) : Prop := n ≤ 1048576 ∧ ∀ i, i < n → wr (c i)
abbrev vz (c : Nat → RawZ) (i : Nat) : Int := (c i).val
abbrev gz (n : Nat) (v : Nat → Int) : Gx := ⟨44, 2, n, zlF fun i => ofZ (v i)⟩
theorem zl_clos {c : Nat → RawZ} (i j : Nat) : (zlF c i j).clos = true := by
 match j with
 | 0 => rfl
 | 1 => rfl
 | j + 2 => rfl
theorem app_same {α : Type} (g : Nat → α) (i j : Nat) : (if j = i then g i else g j) = g j := by
 by_cases e : j = i
 ·rw [if_pos e, e]
 ·rw [if_neg e]
set_option maxHeartbeats 4000000 in
theorem normal5_ok {n : Nat} {c : Nat → RawZ} (h : wl n c) : FnOK Tryz.prog false 114 [.c (zl n c)] (.c (nl (tl (vz c) n) (vz c))) := by
 have hn := h.1
 have h1 : ∀ i, i < n → FnOK Tryz.prog false 124 [.g (zr (c i))] (.g (nz (vz c i))) := fun i hi => znorm_ok (h.2 i hi)
 have h2 : ∀ i, i < n → FnOK Tryz.prog false 86 [.g (nz (vz c i))] (.c (.int .i64 (vz c i).sign)) := fun i hi => by
  have := zsign_ok (a := ofZ (vz c i)) (wr_nz (Nat.le_trans (wr_len (h.2 i hi)) (h.2 i hi).2))
  rwa [ofZ_val] at this
 clear h
 generalize hv : vz c = v at *
 refine fn_ok (E := E0) E0_ok Tryz.func114 rfl mixed (by kernel_rfl) (by kernel_rfl) ?_
 conv => whnf
 refine loop_ints (fun i : Nat => gst [(0, .c (zl n c)), (3, .c (.gs 0 0)), (4, .c (.int .i64 i))] [gz i v]) (fun i => n - i) (fun i => i ≤ n) 0 rfl (Weak.gen [none] rfl ⟨rfl, trivial⟩ ⟨.inl ⟨_, _, rfl, rfl, fun _ _ _ _ => rfl⟩, rfl, ⟨_, rfl, rfl⟩, trivial⟩) (Nat.zero_le _) fun i hi => ?_
 conv => whnf
 refine bcase (fun (h : decide ((i : Int) < n) = true) => ?_) fun (h : decide ((i : Int) < n) = false) => ?_
 ·have h := of_decide_eq_true h
  have g1 := h1 i (by omega)
  conv => whnf
  refine ⟨by omega, ?_⟩
  conv => whnf
  refine ⟨by omega, ?_⟩
  conv => whnf
  refine ⟨_, g1, ?_⟩
  conv => whnf
  refine ⟨by show i + 1 ≤ 16777216; omega, fun x y hx hy => ?_, ?_⟩
  ·match x, y, hx, hy with
   | 0, 0, _, _ => exact ⟨rfl, fun h => by cases h⟩
   | 0, 1, _, _ => exact ⟨rfl, fun h => by cases h⟩
  conv => whnf
  refine ⟨i64 (by omega) (by omega), ?_⟩
  conv => whnf
  refine ⟨i + 1, by omega, Weak.gen [some 0] rfl ⟨⟨_, rfl, rfl, rfl, rfl, rfl, fun j k hj hk => ?_⟩, trivial⟩ ⟨.inl ⟨_, _, rfl, rfl, fun _ _ _ _ => rfl⟩, ⟨_, rfl, rfl, rfl⟩, ⟨_, rfl, rfl⟩, trivial⟩, by omega⟩
  exact regE (appG (sz := 2) (g := fun i => nz (v i)) (g' := fun i => nz (v i)) (l := nz (v i)) (app_same (fun i => nz (v i)) i j) (Nat.le_refl (i + 1)) hj) (zl_clos (c := fun i => ofZ (v i)) j k)
 ·have h := of_decide_eq_false h
  have e : i = n := by omega
  conv => whnf
  refine loop_ints (fun m : Nat => gst [(3, .c (.gs 0 0)), (5, .c (.int .i64 m))] [gz i v]) (fun m => m) (fun m => m ≤ i ∧ tl v m = tl v i) i rfl (Weak.gen [some 0] rfl ⟨⟨_, rfl, rfl, rfl, rfl, rfl, fun j k hj hk => regE rfl (zl_clos (c := fun i => ofZ (v i)) j k)⟩, trivial⟩ ⟨⟨_, rfl, rfl, rfl⟩, ⟨_, rfl, rfl⟩, trivial⟩) ⟨Nat.le_refl _, rfl⟩ fun m ⟨hm, ht⟩ => ?_
  conv => whnf
  refine bcase (fun (h : gw true (decide ((0 : Int) < m)) = true) => ?_) fun (h : gw true (decide ((0 : Int) < m)) = false) => ?_
  ·have h := of_decide_eq_true (gw_true.1 h)
   have ek : ((m : Int) - 1).toNat = m - 1 := by omega
   have hs := h2 ((m : Int) - 1).toNat (by omega)
   have hz : v ((m : Int) - 1).toNat = 0 → tl v (m - 1) = tl v i := fun h => by
    rw [← ht]
    obtain ⟨k, rfl⟩ : ∃ k, m = k + 1 := ⟨m - 1, by omega⟩
    rw [ek] at h
    show tl v k = _
    simp only [tl, Nat.add_sub_cancel] at h ⊢
    rw [if_pos h]
   have hz' : v ((m : Int) - 1).toNat ≠ 0 → m = tl v n := fun h => by
    rw [← e, ← ht]
    obtain ⟨k, rfl⟩ : ∃ k, m = k + 1 := ⟨m - 1, by omega⟩
    rw [ek] at h
    simp only [tl, Nat.add_sub_cancel] at h ⊢
    rw [if_neg h]
   conv => whnf
   refine ⟨i64 (by omega) (by omega), ?_⟩
   conv => whnf
   refine ⟨by omega, ?_⟩
   conv => whnf
   refine ⟨by show ((m : Int) - 1) < (i : Int); omega, ?_⟩
   conv => whnf
   refine ⟨_, hs, ?_⟩
   conv => whnf
   refine bcase (fun (h3 : decide ((v ((m : Int) - 1).toNat).sign = 0) = true) => ?_) fun (h3 : decide ((v ((m : Int) - 1).toNat).sign = 0) = false) => ?_
   ·have h3 := Int.sign_eq_zero_iff_zero.1 (of_decide_eq_true h3)
    have g3 := hz h3
    conv => whnf
    refine ⟨i64 (by omega) (by omega), ?_⟩
    conv => whnf
    exact ⟨m - 1, by omega, Weak.gen [some 0] rfl ⟨⟨_, rfl, rfl, rfl, rfl, rfl, fun j k hj hk => regE rfl (zl_clos (c := fun i => ofZ (v i)) j k)⟩, trivial⟩ ⟨⟨_, rfl, rfl, rfl⟩, ⟨_, rfl, by omega⟩, trivial⟩, by omega, g3⟩
   ·have h3 := hz' fun e => of_decide_eq_false h3 (by rw [e]; rfl)
    conv => whnf
    refine ⟨by omega, by omega, ?_⟩
    conv => whnf
    refine ⟨by show (m : Int) ≤ (i : Int); omega, ?_⟩
    conv => whnf
    refine ⟨fun j k _ _ => zl_clos (c := fun i => ofZ (v i)) j k, ?_⟩
    conv => whnf
    exact ⟨rfl, subRowG (by show ((m : Int) - 0).toNat = _; omega) fun j k _ _ => zlF_eq (c := fun i => ofZ (v i)) (e := fun i => ofZ (v i)) (i := Int.toNat 0 + j) (k := j) (congrArg (fun t => ofZ (v t)) (by omega))⟩
  ·have h : ¬ (0 : Int) < m := of_decide_eq_false (gw_false.1 h)
   have h3 : tl v n = 0 := by rw [← e, ← ht]; rw [show m = 0 by omega]; rfl
   conv => whnf
   refine ⟨by omega, by omega, ?_⟩
   conv => whnf
   refine ⟨by show (m : Int) ≤ (i : Int); omega, ?_⟩
   conv => whnf
   refine ⟨fun j k _ _ => zl_clos (c := fun i => ofZ (v i)) j k, ?_⟩
   conv => whnf
   exact ⟨rfl, subRowG (by show ((m : Int) - 0).toNat = _; omega) fun j k _ _ => zlF_eq (c := fun i => ofZ (v i)) (e := fun i => ofZ (v i)) (i := Int.toNat 0 + j) (k := j) (congrArg (fun t => ofZ (v t)) (by omega))⟩
set_option maxHeartbeats 4000000 in
theorem degree5_ok {n : Nat} {c : Nat → RawZ} (h : wl n c) : FnOK Tryz.prog false 115 [.c (zl n c)] (.c (.int .i64 ((tl (vz c) n : Nat) - 1))) := by
 have h1 := normal5_ok h
 have h2 := tl_le (vz c) n
 have h3 := h.1
 refine fn_ok (E := E0) E0_ok Tryz.func115 rfl mixed (by kernel_rfl) (by kernel_rfl) ?_
 conv => whnf
 refine ⟨_, h1, ?_⟩
 conv => whnf
 refine ⟨i64 (by show _ ≤ ((tl (vz c) n : Nat) : Int) - 1; omega) (by show ((tl (vz c) n : Nat) : Int) - 1 < _; omega), ?_⟩
 conv => whnf
 exact ⟨rfl, Sub.refl _⟩
def co (v : Nat → Int) (n : Nat) (i : Int) : Int := if 0 ≤ i ∧ i < n then v i.toNat else 0
set_option maxHeartbeats 4000000 in
theorem at5_ok {n : Nat} {c : Nat → RawZ} {i : Int} (h : wl n c) : FnOK Tryz.prog false 151 [.c (zl n c), .c (.int .i64 i)] (.g (nz (co (vz c) n i))) := by
 have h0 := rof_ok (x := 0) (by decide) (by decide)
 have h1 : 0 ≤ i → i < n → FnOK Tryz.prog false 124 [.g (zr (c i.toNat))] (.g (nz (co (vz c) n i))) := fun a b => by
  have := znorm_ok (h.2 i.toNat (by omega))
  unfold co
  rwa [if_pos ⟨a, b⟩]
 have e0 : i < 0 ∨ (n : Int) ≤ i → Sub (.g (nz 0)) (.g (nz (co (vz c) n i))) := fun a => by
  unfold co
  rw [if_neg (by omega)]
  exact Sub.refl _
 refine fn_ok (E := E0) E0_ok Tryz.func151 rfl mixed (by kernel_rfl) (by kernel_rfl) ?_
 conv => whnf
 refine bcase (fun (h : gw false (decide (i < 0)) = true) => ?_) fun (h : gw false (decide (i < 0)) = false) => ?_
 ·have h := of_decide_eq_false (gwf h)
  conv => whnf
  refine bcase (fun (h' : decide ((n : Int) ≤ i) = true) => ?_) fun (h' : decide ((n : Int) ≤ i) = false) => ?_
  ·have g := e0 (.inr (of_decide_eq_true h'))
   conv => whnf
   refine ⟨_, h0, ?_⟩
   conv => whnf
   exact ⟨rfl, g⟩
  ·have h' := of_decide_eq_false h'
   have g := h1 (by omega) (by omega)
   conv => whnf
   refine ⟨by omega, by omega, ?_⟩
   conv => whnf
   refine ⟨_, g, ?_⟩
   conv => whnf
   exact ⟨rfl, Sub.refl _⟩
 ·have h := of_decide_eq_true (gwf' h)
  have g := e0 (.inl h)
  conv => whnf
  refine ⟨_, h0, ?_⟩
  conv => whnf
  exact ⟨rfl, g⟩
abbrev ldc (n : Nat) (v : Nat → Int) : Int := co v n ((tl v n : Nat) - 1)
set_option maxHeartbeats 4000000 in
theorem lead5_ok {n : Nat} {c : Nat → RawZ} (h : wl n c) : FnOK Tryz.prog false 117 [.c (zl n c)] (.g (nz (ldc n (vz c)))) := by
 have h1 := degree5_ok h
 have h2 := at5_ok (i := ((tl (vz c) n : Nat) - 1)) h
 refine fn_ok (E := E0) E0_ok Tryz.func117 rfl mixed (by kernel_rfl) (by kernel_rfl) ?_
 conv => whnf
 refine ⟨_, h1, ?_⟩
 conv => whnf
 refine ⟨_, h2, ?_⟩
 conv => whnf
 exact ⟨rfl, Sub.refl _⟩
def formed (n : Nat) (v : Nat → Int) : Prop := 2 ≤ tl v n ∧ tl v n ≤ 13 ∧ ldc n v = 1
instance (n : Nat) (v : Nat → Int) : Decidable (formed n v) := by unfold formed; infer_instance
end Rf
end Go.Proofs.YtmbejakmeijcbaaGreat
/- Polynomials over the integers, as functions: sums of products. -/
namespace Go.Proofs.YtmbejakmeijcbaaGreat
namespace Z
theorem tl_behind {a : Nat → Int} : ∀ {n k : Nat}, tl a n ≤ k → k < n → a k = 0
 | 0, k, _, h => absurd h (Nat.not_lt_zero k)
 | n + 1, k, h, hk => by
  unfold tl at h
  split at h
  ·rename_i h0
   by_cases e : k = n
   ·rw [e]; exact h0
   ·exact tl_behind h (by omega)
  ·omega
def su (f : Nat → Int) : Nat → Int
 | 0 => 0
 | n + 1 => su f n + f n
theorem su_congr {f g : Nat → Int} : ∀ {n : Nat}, (∀ i, i < n → f i = g i) → su f n = su g n
 | 0, _ => rfl
 | n + 1, h => by
  unfold su
  rw [su_congr fun i hi => h i (by omega), h n (by omega)]
theorem su_add {f g : Nat → Int} : ∀ {n : Nat}, su (fun i => f i + g i) n = su f n + su g n
 | 0 => (Int.add_zero 0).symm
 | n + 1 => by
  unfold su
  rw [su_add]
  grind
theorem su_zero {f : Nat → Int} : ∀ {n : Nat}, (∀ i, i < n → f i = 0) → su f n = 0
 | 0, _ => rfl
 | n + 1, h => by
  unfold su
  rw [su_zero fun i hi => h i (by omega), h n (by omega), Int.add_zero]
theorem su_head {f : Nat → Int} : ∀ {n : Nat}, su f (n + 1) = f 0 + su (fun i => f (i + 1)) n
 | 0 => by show 0 + f 0 = f 0 + 0; rw [Int.add_comm]
 | n + 1 => by
  show su f (n + 1) + f (n + 1) = f 0 + (su (fun i => f (i + 1)) n + f (n + 1))
  rw [su_head, Int.add_assoc]
theorem su_rev : ∀ {n : Nat} {f : Nat → Int}, su f n = su (fun i => f (n - 1 - i)) n
 | 0, _ => rfl
 | n + 1, f => by
  rw [su_head, su_rev (n := n)]
  show f 0 + su (fun i => f (n - 1 - i + 1)) n = su (fun i => f (n + 1 - 1 - i)) n + f (n + 1 - 1 - n)
  rw [show n + 1 - 1 - n = 0 by omega, su_congr (g := fun i => f (n + 1 - 1 - i)) fun i hi => by
   show f (n - 1 - i + 1) = f (n + 1 - 1 - i)
   rw [show n - 1 - i + 1 = n + 1 - 1 - i by omega]]
  rw [Int.add_comm]
theorem su_one {f : Nat → Int} {t : Nat} : ∀ {n : Nat}, t < n → (∀ i, i < n → i ≠ t → f i = 0) → su f n = f t
 | 0, h, _ => absurd h (Nat.not_lt_zero t)
 | n + 1, h, h0 => by
  unfold su
  by_cases e : t = n
  ·subst e
   rw [su_zero fun i hi => h0 i (by omega) (by omega), Int.zero_add]
  ·rw [su_one (t := t) (by omega) fun i hi he => h0 i (by omega) he, h0 n (by omega) (fun h => e h.symm), Int.add_zero]
def cf (F G : Nat → Int) (k : Nat) : Int := su (fun i => F i * G (k - i)) (k + 1)
theorem cf_comm (F G : Nat → Int) (k : Nat) : cf F G k = cf G F k := by
 unfold cf
 rw [su_rev]
 refine su_congr fun i hi => ?_
 rw [show k + 1 - 1 - i = k - i by omega, show k - (k - i) = i by omega, Int.mul_comm]
theorem cf_add (F G H : Nat → Int) (k : Nat) : cf F (fun i => G i + H i) k = cf F G k + cf F H k := by
 unfold cf
 rw [← su_add]
 exact su_congr fun i _ => Int.mul_add _ _ _
theorem cf_add_left (F G H : Nat → Int) (k : Nat) : cf (fun i => F i + G i) H k = cf F H k + cf G H k := by
 rw [cf_comm, cf_add, cf_comm H F, cf_comm H G]
theorem cf_congr {F F' G G' : Nat → Int} (h : ∀ i, F i = F' i) (h' : ∀ i, G i = G' i) (k : Nat) : cf F G k = cf F' G' k :=
 su_congr fun i _ => by rw [h, h']
def Fin (n : Nat) (F : Nat → Int) : Prop := ∀ k, n ≤ k → F k = 0
theorem Fin.mono {n m : Nat} {F : Nat → Int} (h : Fin n F) (hm : n ≤ m) : Fin m F := fun k hk => h k (by omega)
theorem Fin.cf {n m : Nat} {F G : Nat → Int} (h : Fin n F) (h' : Fin m G) : Fin (n + m) (cf F G) := fun k hk => su_zero fun i hi => by
 rcases Nat.lt_or_ge i n with c | c
 ·rw [h' (k - i) (by omega), Int.mul_zero]
 ·rw [h i c, Int.zero_mul]
structure Mon (n : Nat) (f : Nat → Int) : Prop where
 top : f n = 1
 fin : Fin (n + 1) f
theorem cf_top {n t : Nat} {f q : Nat → Int} (hf : Mon n f) (hq : Fin (t + 1) q) : cf q f (t + n) = q t := by
 have h : cf q f (t + n) = q t * f (t + n - t) := su_one (t := t) (by omega) fun i hi he => by
  rcases Nat.lt_or_ge i (t + 1) with c | c
  ·rw [hf.fin (t + n - i) (by omega), Int.mul_zero]
  ·rw [hq i c, Int.zero_mul]
 rw [h, show t + n - t = n by omega, hf.top, Int.mul_one]
theorem tl_eq {v : Nat → Int} {n m : Nat} (h : Fin n v) (h' : Fin m v) : tl v n = tl v m := by
 have key : ∀ {n m : Nat}, Fin n v → Fin m v → tl v n ≤ tl v m := fun {n m} h h' => by
  rcases Nat.lt_or_ge (tl v m) (tl v n) with c | c
  ·obtain ⟨k, hk⟩ : ∃ k, tl v n = k + 1 := ⟨tl v n - 1, by omega⟩
   refine absurd ?_ (tl_top hk)
   rcases Nat.lt_or_ge k m with c' | c'
   ·exact tl_behind (by omega) c'
   ·exact h' k c'
  ·exact c
 exact Nat.le_antisymm (key h h') (key h' h)
theorem tl_fin {v : Nat → Int} {n : Nat} (h : Fin n v) : Fin (tl v n) v := fun k hk => by
 rcases Nat.lt_or_ge k n with c | c
 ·exact tl_behind hk c
 ·exact h k c
theorem tl_zero {v : Nat → Int} (h : ∀ k, v k = 0) : ∀ n, tl v n = 0
 | 0 => rfl
 | n + 1 => by unfold tl; rw [if_pos (h n), tl_zero h n]
theorem tl_is {v : Nat → Int} {n k : Nat} (h : Fin n v) (hk : Fin k v) (ht : k = 0 ∨ v (k - 1) ≠ 0) : tl v n = k := by
 rw [tl_eq h hk]
 refine tl_self fun j hj => ?_
 rcases ht with ht | ht
 ·omega
 ·rwa [hj, Nat.add_sub_cancel] at ht
end Z
end Go.Proofs.YtmbejakmeijcbaaGreat
/- The document's product of integers. -/
namespace Go.Proofs.YtmbejakmeijcbaaGreat
open Go.RowKit
namespace Rf
def mS (V a i : Nat) (b : Nat → Nat) (j : Nat) : Nat := V + a * nv b j * BB ^ i
def mC (V a i : Nat) (b : Nat → Nat) (j : Nat) : Nat := mS V a i b j / BB ^ (i + j) - V / BB ^ (i + j)
theorem mC_eq (V a i : Nat) (b : Nat → Nat) (j : Nat) : mS V a i b j / BB ^ (i + j) = V / BB ^ (i + j) + mC V a i b j := by
 have := Nat.div_le_div_right (c := BB ^ (i + j)) (show V ≤ mS V a i b j from Nat.le_add_right _ _)
 unfold mC
 omega
theorem mC_zero (V a i : Nat) (b : Nat → Nat) : mC V a i b 0 = 0 := by
 unfold mC mS
 simp [nv]
theorem mC_lt {V a i : Nat} {b : Nat → Nat} {j : Nat} (ha : a < BB) (hb : DOk j b) : mC V a i b j < BB := by
 have h1 : a * nv b j + BB ^ j ≤ BB * BB ^ j := by
  have h2 := nv_lt hb
  have h3 : a * nv b j ≤ (BB - 1) * nv b j := Nat.mul_le_mul_right _ (by omega)
  have h4 : (BB - 1) * nv b j ≤ (BB - 1) * BB ^ j := Nat.mul_le_mul_left _ (Nat.le_of_lt h2)
  have h5 : (BB - 1) * BB ^ j + BB ^ j = BB * BB ^ j := by
   rw [← Nat.succ_mul]
   congr 1
  omega
 have hP : 0 < BB ^ (i + j) := BB_pos _
 have e := mC_eq V a i b j
 have h6 : mS V a i b j < (V / BB ^ (i + j) + BB) * BB ^ (i + j) := by
  have h7 := Nat.lt_div_mul_add (a := V) hP
  have h8 : a * nv b j * BB ^ i ≤ (BB * BB ^ j - BB ^ j) * BB ^ i := Nat.mul_le_mul_right _ (by omega)
  have h9 : (BB * BB ^ j - BB ^ j) * BB ^ i + BB ^ (i + j) = BB * BB ^ (i + j) := by
   rw [Nat.pow_add, Nat.mul_sub_right_distrib, Nat.mul_comm (BB ^ i), Nat.mul_assoc]
   have : BB ^ j * BB ^ i ≤ BB * (BB ^ j * BB ^ i) := Nat.le_mul_of_pos_left _ (by decide)
   omega
  unfold mS
  rw [Nat.add_mul]
  omega
 have := (Nat.div_lt_iff_lt_mul hP).2 h6
 omega
theorem m_step {V a i : Nat} {b : Nat → Nat} (j : Nat) : (a * b j + dg V (i + j) + mC V a i b j) % BB = dg (mS V a i b (j + 1)) (i + j) ∧ (a * b j + dg V (i + j) + mC V a i b j) / BB = mC V a i b (j + 1) := by
 have hP : 0 < BB ^ (i + j) := BB_pos _
 have e1 := mC_eq V a i b j
 have e2 : mS V a i b (j + 1) = mS V a i b j + a * b j * BB ^ (i + j) := by
  unfold mS
  show V + a * (nv b j + BB ^ j * b j) * BB ^ i = _
  rw [Nat.pow_add, Nat.mul_add, Nat.add_mul, ← Nat.add_assoc]
  congr 1
  rw [Nat.mul_assoc, Nat.mul_assoc, Nat.mul_assoc]
  congr 1
  rw [Nat.mul_comm (BB ^ j), Nat.mul_assoc]
 have e3 : mS V a i b (j + 1) / BB ^ (i + j) = V / BB ^ (i + j) + mC V a i b j + a * b j := by
  rw [e2, Nat.add_mul_div_right _ _ hP, e1]
 have e4 : V / BB ^ (i + j) = V / BB ^ (i + (j + 1)) * BB + dg V (i + j) := by
  unfold dg
  rw [← Nat.add_assoc, Nat.pow_succ, ← Nat.div_div_eq_div_mul]
  have := Nat.div_add_mod (V / BB ^ (i + j)) BB
  rw [Nat.mul_comm] at this
  exact this.symm
 have e5 : mS V a i b (j + 1) / BB ^ (i + j) = (a * b j + dg V (i + j) + mC V a i b j) + V / BB ^ (i + (j + 1)) * BB := by omega
 have hB : 0 < BB := by decide
 refine ⟨?_, ?_⟩
 ·show _ = mS V a i b (j + 1) / BB ^ (i + j) % BB
  rw [e5, Nat.add_mul_mod_self_right]
 ·have e6 : mS V a i b (j + 1) / BB ^ (i + (j + 1)) = (a * b j + dg V (i + j) + mC V a i b j) / BB + V / BB ^ (i + (j + 1)) := by
   rw [show BB ^ (i + (j + 1)) = BB ^ (i + j) * BB by rw [← Nat.add_assoc, Nat.pow_succ], ← Nat.div_div_eq_div_mul, e5, Nat.add_mul_div_right _ _ hB, ← Nat.add_assoc, Nat.pow_succ]
  have := mC_eq V a i b (j + 1)
  omega
theorem m_low {V a i : Nat} {b : Nat → Nat} {j k : Nat} (h : k < i + j) : dg (mS V a i b (j + 1)) k = dg (mS V a i b j) k := by
 have e2 : mS V a i b (j + 1) = mS V a i b j + a * b j * BB ^ (i + j) := by
  unfold mS
  show V + a * (nv b j + BB ^ j * b j) * BB ^ i = _
  rw [Nat.pow_add, Nat.mul_add, Nat.add_mul, ← Nat.add_assoc]
  congr 1
  rw [Nat.mul_assoc, Nat.mul_assoc, Nat.mul_assoc]
  congr 1
  rw [Nat.mul_comm (BB ^ j), Nat.mul_assoc]
 unfold dg
 have e3 : BB ^ (i + j) = BB ^ (i + j - (k + 1)) * BB * BB ^ k := by
  rw [Nat.mul_assoc, Nat.mul_comm BB, ← Nat.pow_succ, ← Nat.pow_add]
  congr 1
  omega
 rw [e2, e3, ← Nat.mul_assoc, ← Nat.mul_assoc, Nat.add_mul_div_right _ _ (BB_pos k), Nat.add_mul_mod_self_right]
def mD (V a i : Nat) (b : Nat → Nat) (j k : Nat) : Nat := if k < i + j then dg (mS V a i b j) k else dg V k
theorem mD_zero (V a i : Nat) (b : Nat → Nat) (k : Nat) : mD V a i b 0 k = dg V k := by
 unfold mD mS
 simp [nv]
theorem mD_at (V a i : Nat) (b : Nat → Nat) (j : Nat) : mD V a i b j (i + j) = dg V (i + j) := by
 unfold mD
 rw [if_neg (by omega)]
theorem mD_next (V a i : Nat) (b : Nat → Nat) (j k : Nat) : (if k = i + j then (a * b j + dg V (i + j) + mC V a i b j) % BB else mD V a i b j k) = mD V a i b (j + 1) k := by
 unfold mD
 by_cases e : k = i + j
 ·rw [if_pos e, if_pos (by omega), (m_step j).1, e]
 ·rw [if_neg e]
  by_cases e2 : k < i + j
  ·rw [if_pos e2, if_pos (by omega), m_low e2]
  ·rw [if_neg e2, if_neg (by omega)]
theorem mD_end {V a i m : Nat} {b : Nat → Nat} (hV : V < BB ^ (i + m)) (ha : a < BB) (hb : DOk m b) (k : Nat) : (if k = i + m then mC V a i b m else mD V a i b m k) = dg (mS V a i b m) k := by
 have e := mC_eq V a i b m
 rw [Nat.div_eq_of_lt hV, Nat.zero_add] at e
 have hc := mC_lt (V := V) (i := i) ha hb
 unfold mD
 by_cases c : k = i + m
 ·rw [if_pos c, c]
  unfold dg
  rw [e, Nat.mod_eq_of_lt hc]
 ·rw [if_neg c]
  by_cases c2 : k < i + m
  ·rw [if_pos c2]
  ·rw [if_neg c2]
   have hS : mS V a i b m < BB ^ (i + m + 1) := by
    rw [Nat.pow_succ, Nat.mul_comm]
    have := (Nat.div_lt_iff_lt_mul (BB_pos (i + m))).1 (show mS V a i b m / BB ^ (i + m) < BB by omega)
    exact this
   have h1 : BB ^ (i + m + 1) ≤ BB ^ k := Nat.pow_le_pow_right (by decide) (by omega)
   have h2 : BB ^ (i + m) ≤ BB ^ k := Nat.pow_le_pow_right (by decide) (by omega)
   unfold dg
   rw [Nat.div_eq_of_lt (by omega), Nat.div_eq_of_lt (by omega)]
theorem mS_end {y i : Nat} {a b : Nat → Nat} {m : Nat} (hy : nv b m = y) : mS (nv a i * y) (a i) i b m = nv a (i + 1) * y := by
 unfold mS
 show _ = (nv a i + BB ^ i * a i) * y
 rw [hy, Nat.add_mul]
 congr 1
 rw [Nat.mul_assoc, Nat.mul_comm, Nat.mul_assoc, Nat.mul_comm y, Nat.mul_assoc]
theorem mul_word {u v w c : Nat} (hu : u < BB) (hv : v < BB) (hw : w < BB) (hc : c < BB) : IntKind.u64.wrap (IntKind.u64.wrap (IntKind.u64.wrap (IntKind.u64.wrap (u : Int) * IntKind.u64.wrap (v : Int)) + IntKind.u64.wrap (w : Int)) + (c : Int)) = ((u * v + w + c : Nat) : Int) := by
 have hu : u < 4294967296 := hu
 have hv : v < 4294967296 := hv
 have hw : w < 4294967296 := hw
 have hc : c < 4294967296 := hc
 have h1 : u * v ≤ 4294967295 * 4294967295 := Nat.mul_le_mul (by omega) (by omega)
 rw [w64 (x := (u : Int)) (by omega) (by omega), w64 (x := (v : Int)) (by omega) (by omega), w64 (x := (w : Int)) (by omega) (by omega), ← Int.natCast_mul]
 generalize u * v = t at *
 rw [w64 (x := (t : Int)) (by omega) (by omega), w64 (x := (t : Int) + (w : Int)) (by omega) (by omega), w64 (by omega) (by omega)]
 omega
theorem sgn_mul (p q : Bool) (x y : Nat) : sgn (!(p == q)) (x * y) = sgn p x * sgn q y := by
 cases p <;> cases q <;> simp [sgn, Int.mul_neg, Int.neg_mul]
set_option maxHeartbeats 8000000 in
theorem rmulz_ok {a b : RawZ} (ha : wr a) (hb : wr b) (hl : zlen a.val + zlen b.val ≤ 1048576) : FnOK Tryz.prog false 123 [.g (zr a), .g (zr b)] (.g (nz (a.val * b.val))) := by
 have t1 := rtrim_ok (ld_ok ha.1 a.ds.length) ha.2
 have t2 := rtrim_ok (ld_ok hb.1 b.ds.length) hb.2
 obtain ⟨x, hx⟩ : ∃ x, x = nv (ld a.ds) a.ds.length := ⟨_, rfl⟩
 obtain ⟨y, hy⟩ : ∃ y, y = nv (ld b.ds) b.ds.length := ⟨_, rfl⟩
 rw [← hx] at t1
 rw [← hy] at t2
 have ex : a.val = sgn a.neg x := by rw [hx]; exact (nv_raw a).symm
 have ey : b.val = sgn b.neg y := by rw [hy]; exact (nv_raw b).symm
 have lx : zlen a.val = (digs x).length := by rw [ex]; unfold zlen; rw [sgn_abs]
 have ly : zlen b.val = (digs y).length := by rw [ey]; unfold zlen; rw [sgn_abs]
 rw [lx, ly] at hl
 rw [ex, ey, ← sgn_mul]
 have dx := ld_ok (digs_ok x) (digs x).length
 have dy := ld_ok (digs_ok y) (digs y).length
 have vx := nv_digs x
 have vy := nv_digs y
 have bx := lt_digs x
 have by' := lt_digs y
 obtain ⟨α, hα⟩ : ∃ α, α = ld (digs x) := ⟨_, rfl⟩
 obtain ⟨β, hβ⟩ : ∃ β, β = ld (digs y) := ⟨_, rfl⟩
 rw [← hα] at dx vx
 rw [← hβ] at dy vy
 have hS := fun s => sg_ok (x := x * y) (q := (digs x).length + (digs y).length) s (by rw [Nat.pow_add]; exact Nat.mul_lt_mul'' bx by') hl
 clear ex ey lx ly hx hy
 have hVl : ∀ i : Nat, (i : Int) < (digs x).length → nv α i * y < BB ^ (i + (digs y).length) := fun i hi => by
  rw [Nat.pow_add]
  exact Nat.mul_lt_mul'' (nv_lt (dx.mono (by omega))) by'
 refine fn_ok (E := E0) E0_ok Tryz.func123 rfl mixed (by kernel_rfl) (by kernel_rfl) ?_
 conv => whnf
 refine ⟨_, t1, ?_⟩
 conv => whnf
 refine ⟨_, t2, ?_⟩
 conv => whnf
 refine ⟨i64 (by omega) (by omega), ?_⟩
 conv => whnf
 refine ⟨by omega, Int.le_refl _, by omega, by show (4 : Int) * (((digs x).length : Int) + ((digs y).length : Int)) ≤ 281474976710656; omega, ?_⟩
 have eN : (((digs x).length : Int) + ((digs y).length : Int)).toNat = (digs x).length + (digs y).length := by omega
 conv => whnf
 refine loop_ints (fun i : Nat => gst [(2, .c (.p 0 0 2 0 0)), (3, .c (.p 1 0 2 0 0)), (4, .c (.p 2 0 2 0 0)), (5, .c (dsC (digs x))), (6, .c (dsC (digs y))), (7, .c (.gs 3 0)), (8, .c (.int .i64 i))] [⟨44, 2, 1, boxF (zr a)⟩, ⟨44, 2, 1, boxF (zr b)⟩, ⟨44, 2, 1, boxF [.bool false, .nil]⟩, gd ((digs x).length + (digs y).length) (dg (nv α i * y))]) (fun i => (digs x).length - i) (fun i => i ≤ (digs x).length) 0 rfl ?_ (Nat.zero_le _) fun i hi => ?_
 ·refine Weak.gen [some 0, some 1, some 2, some 3] rfl ⟨boxK rfl rfl, boxK rfl rfl, boxK rfl rfl, ⟨_, rfl, rfl, rfl, eN, rfl, fun p k hp hk => ?_⟩, trivial⟩ ⟨⟨_, rfl, rfl, rfl⟩, ⟨_, rfl, rfl, rfl⟩, ⟨_, rfl, rfl, rfl⟩, .inl ⟨_, _, rfl, rfl, fun _ _ _ _ => rfl⟩, .inl ⟨_, _, rfl, rfl, fun _ _ _ _ => rfl⟩, ⟨_, rfl, rfl, rfl⟩, ⟨_, rfl, rfl⟩, trivial⟩
  obtain rfl := Nat.lt_one_iff.1 hk
  exact ⟨_, rfl, by show (0 : Int) = (dg (nv α 0 * y) p : Nat); simp [nv, dg]⟩
 conv => whnf
 refine bcase (fun (h : decide ((i : Int) < (digs x).length) = true) => ?_) fun (h : decide ((i : Int) < (digs x).length) = false) => ?_
 ·have h := of_decide_eq_true h
  conv => whnf
  refine loop_ints (fun j : Nat => gst [(2, .c (.p 0 0 2 0 0)), (3, .c (.p 1 0 2 0 0)), (4, .c (.p 2 0 2 0 0)), (5, .c (dsC (digs x))), (6, .c (dsC (digs y))), (7, .c (.gs 3 0)), (8, .c (.int .i64 i)), (9, .c (.int .u64 (mC (nv α i * y) (α i) i β j : Nat))), (10, .c (.int .i64 j))] [⟨44, 2, 1, boxF (zr a)⟩, ⟨44, 2, 1, boxF (zr b)⟩, ⟨44, 2, 1, boxF [.bool false, .nil]⟩, gd ((digs x).length + (digs y).length) (mD (nv α i * y) (α i) i β j)]) (fun j => (digs y).length - j) (fun j => j ≤ (digs y).length) 0 rfl ?_ (Nat.zero_le _) fun j hj => ?_
  ·exact Weak.gen [some 0, some 1, some 2, some 3] rfl ⟨boxK rfl rfl, boxK rfl rfl, boxK rfl rfl, ⟨_, rfl, rfl, rfl, rfl, rfl, fun p k hp hk => ⟨_, congrArg (fun t : Nat => Cell.int .u32 (t : Nat)) (mD_zero _ _ _ _ p).symm, rfl⟩⟩, trivial⟩ ⟨⟨_, rfl, rfl, rfl⟩, ⟨_, rfl, rfl, rfl⟩, ⟨_, rfl, rfl, rfl⟩, .inl ⟨_, _, rfl, rfl, fun _ _ _ _ => rfl⟩, .inl ⟨_, _, rfl, rfl, fun _ _ _ _ => rfl⟩, ⟨_, rfl, rfl, rfl⟩, ⟨_, rfl, rfl⟩, ⟨_, rfl, by rw [mC_zero]; rfl⟩, ⟨_, rfl, rfl⟩, trivial⟩
  conv => whnf
  refine bcase (fun (h1 : decide ((j : Int) < (digs y).length) = true) => ?_) fun (h1 : decide ((j : Int) < (digs y).length) = false) => ?_
  ·have h1 := of_decide_eq_true h1
   have hw1 : IntKind.u64.wrap (IntKind.u64.wrap (IntKind.u64.wrap (IntKind.u64.wrap (((digs x).getD ((i : Int)).toNat 0 : Nat) : Int) * IntKind.u64.wrap (((digs y).getD ((j : Int)).toNat 0 : Nat) : Int)) + IntKind.u64.wrap ((mD (nv α i * y) (α i) i β j ((i : Int) + (j : Int)).toNat : Nat) : Int)) + ((mC (nv α i * y) (α i) i β j : Nat) : Int)) = ((α i * β j + dg (nv α i * y) (i + j) + mC (nv α i * y) (α i) i β j : Nat) : Int) := by
    rw [show ((i : Int) + (j : Int)).toNat = i + j by omega, mD_at]
    have e1 : (digs x).getD ((i : Int)).toNat 0 = α i := by rw [hα]; rfl
    have e2 : (digs y).getD ((j : Int)).toNat 0 = β j := by rw [hβ]; rfl
    rw [e1, e2]
    exact mul_word (dx i (by omega)) (dy j (by omega)) (dg_lt _ _) (mC_lt (dx i (by omega)) (dy.mono (by omega)))
   conv => whnf
   refine ⟨by omega, by omega, ?_⟩
   conv => whnf
   refine ⟨by omega, by omega, ?_⟩
   conv => whnf
   refine ⟨i64 (by omega) (by omega), ?_⟩
   conv => whnf
   refine ⟨by omega, by show (i : Int) + (j : Int) < (((digs x).length + (digs y).length : Nat) : Int); omega, ?_⟩
   conv => whnf
   refine ⟨i64 (by omega) (by omega), ?_⟩
   conv => whnf
   refine ⟨by omega, by show (i : Int) + (j : Int) < (((digs x).length + (digs y).length : Nat) : Int); omega, ?_⟩
   conv => whnf
   refine ⟨by omega, ?_⟩
   conv => whnf
   refine ⟨i64 (by omega) (by omega), ?_⟩
   conv => whnf
   refine ⟨j + 1, by omega, Weak.gen [some 0, some 1, some 2, some 3] rfl ⟨boxK rfl rfl, boxK rfl rfl, boxK rfl rfl, ⟨_, rfl, rfl, rfl, rfl, rfl, fun p k hp hk => ⟨_, updN hk ?_, rfl⟩⟩, trivial⟩ ⟨⟨_, rfl, rfl, rfl⟩, ⟨_, rfl, rfl, rfl⟩, ⟨_, rfl, rfl, rfl⟩, .inl ⟨_, _, rfl, rfl, fun _ _ _ _ => rfl⟩, .inl ⟨_, _, rfl, rfl, fun _ _ _ _ => rfl⟩, ⟨_, rfl, rfl, rfl⟩, ⟨_, rfl, rfl⟩, ⟨_, rfl, ?_⟩, ⟨_, rfl, rfl⟩, trivial⟩, by omega⟩
   ·rw [hw1]
    show (if p = ((i : Int) + (j : Int)).toNat then IntKind.u32.wrap ((α i * β j + dg (nv α i * y) (i + j) + mC (nv α i * y) (α i) i β j : Nat) : Int) else ((mD (nv α i * y) (α i) i β j p : Nat) : Int)) = (mD (nv α i * y) (α i) i β (j + 1) p : Nat)
    rw [show ((i : Int) + (j : Int)).toNat = i + j by omega, w32, ← mD_next]
    split <;> rfl
   ·rw [hw1]
    show Int.fdiv ((α i * β j + dg (nv α i * y) (i + j) + mC (nv α i * y) (α i) i β j : Nat) : Int) (2 ^ 32) = _
    rw [sh32, (m_step j).2]
  ·have h1 := of_decide_eq_false h1
   have ej : j = (digs y).length := by omega
   conv => whnf
   refine ⟨i64 (by omega) (by omega), ?_⟩
   conv => whnf
   refine ⟨by omega, by show (i : Int) + ((digs y).length : Int) < (((digs x).length + (digs y).length : Nat) : Int); omega, ?_⟩
   conv => whnf
   refine ⟨i64 (by omega) (by omega), ?_⟩
   conv => whnf
   refine ⟨i + 1, by omega, Weak.gen [some 0, some 1, some 2, some 3] rfl ⟨boxK rfl rfl, boxK rfl rfl, boxK rfl rfl, ⟨_, rfl, rfl, rfl, rfl, rfl, fun p k hp hk => ⟨_, updN hk ?_, rfl⟩⟩, trivial⟩ ⟨⟨_, rfl, rfl, rfl⟩, ⟨_, rfl, rfl, rfl⟩, ⟨_, rfl, rfl, rfl⟩, .inl ⟨_, _, rfl, rfl, fun _ _ _ _ => rfl⟩, .inl ⟨_, _, rfl, rfl, fun _ _ _ _ => rfl⟩, ⟨_, rfl, rfl, rfl⟩, ⟨_, rfl, rfl⟩, trivial⟩, by omega⟩
   show (if p = ((i : Int) + ((digs y).length : Int)).toNat then IntKind.u32.wrap (mC (nv α i * y) (α i) i β j : Nat) else ((mD (nv α i * y) (α i) i β j p : Nat) : Int)) = (dg (nv α (i + 1) * y) p : Nat)
   rw [show ((i : Int) + ((digs y).length : Int)).toNat = i + (digs y).length by omega, w32, ej]
   have e1 := mD_end (V := nv α i * y) (a := α i) (i := i) (b := β) (m := (digs y).length) (hVl i h) (dx i (by omega)) dy p
   rw [mS_end vy] at e1
   rw [← e1, Nat.mod_eq_of_lt (mC_lt (dx i (by omega)) dy)]
   split <;> rfl
 ·have h := of_decide_eq_false h
  have e : i = (digs x).length := by omega
  have g := hS (!(a.neg == b.neg))
  have g : FnOK Tryz.prog false 93 [.c (.bool (!(a.neg == b.neg))), .c (dn ((digs x).length + (digs y).length) (dg (nv α i * y)))] (.g (nz (sgn (!(a.neg == b.neg)) (x * y)))) := by
   rw [e, vx]; exact g
  conv => whnf
  refine ⟨fun _ _ _ _ => rfl, ?_⟩
  conv => whnf
  refine ⟨_, g, ?_⟩
  conv => whnf
  exact ⟨rfl, Sub.refl _⟩
end Rf
end Go.Proofs.YtmbejakmeijcbaaGreat
/- The document's integers in normal form: products; the same as themselves. -/
namespace Go.Proofs.YtmbejakmeijcbaaGreat
open Go.RowKit
namespace Rf
theorem zmul_n {a b : Int} (h : zlen a + zlen b ≤ 1048576) : FnOK Tryz.prog false 123 [.g (nz a), .g (nz b)] (.g (nz (a * b))) := by
 have := rmulz_ok (a := ofZ a) (b := ofZ b) (wr_nz (by omega)) (wr_nz (by omega)) (by rw [ofZ_val, ofZ_val]; exact h)
 rwa [ofZ_val, ofZ_val] at this
theorem sub_nil0 {sz n : Nat} {f : Nat → Nat → Cell} (h : n = 0) : Sub (.c .nil) (.c (.row sz n f)) := by
 subst h
 intro D w v hv
 have hv : v = .slice none 0 0 := hv
 exact ⟨none, 0, hv, Nat.le_refl _, fun h => absurd h (Nat.lt_irrefl 0)⟩
end Rf
end Go.Proofs.YtmbejakmeijcbaaGreat
/- The document's polynomials over the integers: sums, multiples, products, shifts; the same as themselves. -/
namespace Go.Proofs.YtmbejakmeijcbaaGreat
open Go.RowKit
namespace Rf
theorem one_nz {bl : List Blk} (x : Int) (r : Bool) (i j : Nat) (hi : i < 1) (hj : j < 2) : St.one bl (rowF 2 (nz x) i j) = true ∧ (r = true → (rowF 2 (nz x) i j).noU = true) := by
 match i, j, hi, hj with
 | 0, 0, _, _ => exact ⟨rfl, fun _ => rfl⟩
 | 0, 1, _, _ => exact ⟨rfl, fun _ => rfl⟩
theorem zadd_n {x y : Int} (h : zlen x ≤ 1048575) (h' : zlen y ≤ 1048575) : FnOK Tryz.prog false 122 [.g (nz x), .g (nz y)] (.g (nz (x + y))) := by
 have := zadd_ok (a := ofZ x) (b := ofZ y) (wr_nz (by omega)) (wr_nz (by omega)) (by rw [ofZ_val]; exact h) (by rw [ofZ_val]; exact h')
 rwa [ofZ_val, ofZ_val] at this
theorem wl_n {n : Nat} {v : Nat → Int} (hn : n ≤ 1048576) (h : ∀ i, zlen (v i) ≤ 1048576) : wl n fun i => ofZ (v i) := ⟨hn, fun i _ => wr_nz (h i)⟩
theorem vz_n (v : Nat → Int) : vz (fun i => ofZ (v i)) = v := funext fun i => ofZ_val (v i)
theorem normal5_n {n : Nat} {v : Nat → Int} (hn : n ≤ 1048576) (h : ∀ i, zlen (v i) ≤ 1048576) : FnOK Tryz.prog false 114 [.c (nl n v)] (.c (nl (tl v n) v)) := by
 have := normal5_ok (wl_n hn h)
 rwa [vz_n] at this
theorem degree5_n {n : Nat} {v : Nat → Int} (hn : n ≤ 1048576) (h : ∀ i, zlen (v i) ≤ 1048576) : FnOK Tryz.prog false 115 [.c (nl n v)] (.c (.int .i64 ((tl v n : Nat) - 1))) := by
 have := degree5_ok (wl_n hn h)
 rwa [vz_n] at this
theorem lead5_n {n : Nat} {v : Nat → Int} (hn : n ≤ 1048576) (h : ∀ i, zlen (v i) ≤ 1048576) : FnOK Tryz.prog false 117 [.c (nl n v)] (.g (nz (ldc n v))) := by
 have := lead5_ok (wl_n hn h)
 rwa [vz_n] at this
theorem at5_n {n i : Nat} {v : Nat → Int} (hn : n ≤ 1048576) (h : ∀ i, zlen (v i) ≤ 1048576) (hf : Z.Fin n v) : FnOK Tryz.prog false 151 [.c (nl n v), .c (.int .i64 i)] (.g (nz (v i))) := by
 have := at5_ok (i := (i : Int)) (wl_n hn h)
 rw [vz_n] at this
 have e : co v n (i : Int) = v i := by
  unfold co
  split
  ·rw [show ((i : Nat) : Int).toNat = i by omega]
  ·exact (hf i (by omega)).symm
 rwa [e] at this
set_option maxHeartbeats 4000000 in
theorem add5_ok {n m : Nat} {a b : Nat → Int} (hn : n ≤ 4096) (hm : m ≤ 4096) (fa : Z.Fin n a) (fb : Z.Fin m b) (la : ∀ i, zlen (a i) ≤ 524286) (lb : ∀ i, zlen (b i) ≤ 524286) : FnOK Tryz.prog false 118 [.c (nl n a), .c (nl m b)] (.c (nl (tl (fun i => a i + b i) (max n m)) fun i => a i + b i)) := by
 have a1 : ∀ i, FnOK Tryz.prog false 151 [.c (nl n a), .c (.int .i64 (i : Nat))] (.g (nz (a i))) := fun i => at5_n (by omega) (fun i => by have := la i; omega) fa
 have a2 : ∀ i, FnOK Tryz.prog false 151 [.c (nl m b), .c (.int .i64 (i : Nat))] (.g (nz (b i))) := fun i => at5_n (by omega) (fun i => by have := lb i; omega) fb
 have a3 : ∀ i, FnOK Tryz.prog false 122 [.g (nz (a i)), .g (nz (b i))] (.g (nz (a i + b i))) := fun i => zadd_n (by have := la i; omega) (by have := lb i; omega)
 have n0 := normal5_n (n := max n m) (v := fun i => a i + b i) (by omega) fun i => by
  have := zlen_add (a i) (b i)
  have := la i
  have := lb i
  show zlen (a i + b i) ≤ _
  omega
 clear fa fb la lb
 obtain ⟨C, hC⟩ : ∃ C : Nat → Int, C = fun i => a i + b i := ⟨_, rfl⟩
 have a4 : ∀ i, FnOK Tryz.prog false 122 [.g (nz (a i)), .g (nz (b i))] (.g (nz (C i))) := by rw [hC]; exact a3
 rw [← hC] at n0 ⊢
 clear hC a3
 have n1 : ∀ i, i = max n m → FnOK Tryz.prog false 114 [.c (nl i C)] (.c (nl (tl C (max n m)) C)) := fun i e => by rw [e]; exact n0
 clear n0
 refine fn_ok (E := E0) E0_ok Tryz.func118 rfl mixed (by kernel_rfl) (by kernel_rfl) ?_
 conv => whnf
 refine loop_ints (fun i : Nat => gst [(0, .c (nl n a)), (1, .c (nl m b)), (5, .c (.gs 0 0)), (6, .c (.int .i64 i))] [gz i C]) (fun i => max n m - i) (fun i => i ≤ max n m) 0 rfl (Weak.gen [none] rfl ⟨rfl, trivial⟩ ⟨.inl ⟨_, _, rfl, rfl, fun _ _ _ _ => rfl⟩, .inl ⟨_, _, rfl, rfl, fun _ _ _ _ => rfl⟩, rfl, ⟨_, rfl, rfl⟩, trivial⟩) (Nat.zero_le _) fun i hi => ?_
 have a1 := a1 i
 have a2 := a2 i
 have a4 := a4 i
 have n1 := n1 i
 have go : i < max n m → i + 1 ≤ 16777216 := fun _ => by omega
 conv => whnf
 refine bcase (fun (h : gw false (decide ((i : Int) < n)) = true) => ?_) fun (h : gw false (decide ((i : Int) < n)) = false) => ?_
 ·have h := of_decide_eq_false (gwf h)
  conv => whnf
  refine bcase (fun (h2 : decide ((i : Int) < m) = true) => ?_) fun (h2 : decide ((i : Int) < m) = false) => ?_
  ·have h2 := of_decide_eq_true h2
   conv => whnf
   refine ⟨_, a1, ?_⟩
   conv => whnf
   refine ⟨_, a2, ?_⟩
   conv => whnf
   refine ⟨_, a4, ?_⟩
   conv => whnf
   refine ⟨go (by omega), fun x y hx hy => one_nz (C i) _ x y hx hy, ?_⟩
   conv => whnf
   refine ⟨i64 (by omega) (by omega), ?_⟩
   conv => whnf
   refine ⟨i + 1, by omega, Weak.gen [some 0] rfl ⟨⟨_, rfl, rfl, rfl, rfl, rfl, fun x y hx hy => regE ?_ (zl_clos (c := fun i => ofZ (C i)) x y)⟩, trivial⟩ ⟨.inl ⟨_, _, rfl, rfl, fun _ _ _ _ => rfl⟩, .inl ⟨_, _, rfl, rfl, fun _ _ _ _ => rfl⟩, ⟨_, rfl, rfl, rfl⟩, ⟨_, rfl, rfl⟩, trivial⟩, by omega⟩
   exact appG (sz := 2) (g := fun k => nz (C k)) (g' := fun k => nz (C k)) (l := nz (C i)) (app_same (fun k => nz (C k)) i x) (Nat.le_refl (i + 1)) hx
  ·have h2 := of_decide_eq_false h2
   have n1 := n1 (by omega)
   conv => whnf
   refine ⟨fun x y _ _ => zl_clos (c := fun i => ofZ (C i)) x y, ?_⟩
   conv => whnf
   refine ⟨_, n1, ?_⟩
   conv => whnf
   exact ⟨rfl, Sub.refl _⟩
 ·have h := of_decide_eq_true (gwf' h)
  conv => whnf
  refine ⟨_, a1, ?_⟩
  conv => whnf
  refine ⟨_, a2, ?_⟩
  conv => whnf
  refine ⟨_, a4, ?_⟩
  conv => whnf
  refine ⟨go (by omega), fun x y hx hy => one_nz (C i) _ x y hx hy, ?_⟩
  conv => whnf
  refine ⟨i64 (by omega) (by omega), ?_⟩
  conv => whnf
  refine ⟨i + 1, by omega, Weak.gen [some 0] rfl ⟨⟨_, rfl, rfl, rfl, rfl, rfl, fun x y hx hy => regE ?_ (zl_clos (c := fun i => ofZ (C i)) x y)⟩, trivial⟩ ⟨.inl ⟨_, _, rfl, rfl, fun _ _ _ _ => rfl⟩, .inl ⟨_, _, rfl, rfl, fun _ _ _ _ => rfl⟩, ⟨_, rfl, rfl, rfl⟩, ⟨_, rfl, rfl⟩, trivial⟩, by omega⟩
  exact appG (sz := 2) (g := fun k => nz (C k)) (g' := fun k => nz (C k)) (l := nz (C i)) (app_same (fun k => nz (C k)) i x) (Nat.le_refl (i + 1)) hx
set_option maxHeartbeats 4000000 in
theorem scale5_ok {n : Nat} {a : Nat → Int} {c : Int} (hn : n ≤ 4096) (la : ∀ i, zlen (a i) ≤ 131070) (lc : zlen c ≤ 131070) : FnOK Tryz.prog false 146 [.c (nl n a), .g (nz c)] (.c (nl (tl (fun i => a i * c) n) fun i => a i * c)) := by
 have a3 : ∀ i, FnOK Tryz.prog false 123 [.g (nz (a i)), .g (nz c)] (.g (nz (a i * c))) := fun i => zmul_n (by have := la i; omega)
 have n0 := normal5_n (n := n) (v := fun i => a i * c) (by omega) fun i => by
  have := zlen_mul (a i) c
  have := la i
  show zlen (a i * c) ≤ _
  omega
 clear la lc
 obtain ⟨C, hC⟩ : ∃ C : Nat → Int, C = fun i => a i * c := ⟨_, rfl⟩
 have a4 : ∀ i, FnOK Tryz.prog false 123 [.g (nz (a i)), .g (nz c)] (.g (nz (C i))) := by rw [hC]; exact a3
 rw [← hC] at n0 ⊢
 clear hC a3
 have n1 : ∀ i, i = n → FnOK Tryz.prog false 114 [.c (nl i C)] (.c (nl (tl C n) C)) := fun i e => by rw [e]; exact n0
 clear n0
 refine fn_ok (E := E0) E0_ok Tryz.func146 rfl mixed (by kernel_rfl) (by kernel_rfl) ?_
 conv => whnf
 refine loop_ints (fun i : Nat => gst [(0, .c (nl n a)), (3, .c (.p 0 0 2 0 0)), (5, .c (.gs 1 0)), (6, .c (.int .i64 i))] [⟨44, 2, 1, boxF (nz c)⟩, gz i C]) (fun i => n - i) (fun i => i ≤ n) 0 rfl (Weak.gen [some 0, none] rfl ⟨boxK rfl rfl, rfl, trivial⟩ ⟨.inl ⟨_, _, rfl, rfl, fun _ _ _ _ => rfl⟩, ⟨_, rfl, rfl, rfl⟩, rfl, ⟨_, rfl, rfl⟩, trivial⟩) (Nat.zero_le _) fun i hi => ?_
 have a4 := a4 i
 have n1 := n1 i
 conv => whnf
 refine bcase (fun (h : decide ((i : Int) < n) = true) => ?_) fun (h : decide ((i : Int) < n) = false) => ?_
 ·have h := of_decide_eq_true h
  conv => whnf
  refine ⟨by omega, by omega, ?_⟩
  conv => whnf
  refine ⟨_, a4, ?_⟩
  conv => whnf
  refine .inr ⟨rfl, ?_⟩
  conv => whnf
  refine ⟨by show i + 1 ≤ 16777216; omega, fun x y hx hy => one_nz (C i) _ x y hx hy, ?_⟩
  conv => whnf
  refine ⟨i64 (by omega) (by omega), ?_⟩
  conv => whnf
  refine ⟨i + 1, by omega, Weak.gen [some 0, some 1] rfl ⟨boxK rfl rfl, ⟨_, rfl, rfl, rfl, rfl, rfl, fun x y hx hy => regE ?_ (zl_clos (c := fun i => ofZ (C i)) x y)⟩, trivial⟩ ⟨.inl ⟨_, _, rfl, rfl, fun _ _ _ _ => rfl⟩, ⟨_, rfl, rfl, rfl⟩, ⟨_, rfl, rfl, rfl⟩, ⟨_, rfl, rfl⟩, trivial⟩, by omega⟩
  exact appG (sz := 2) (g := fun k => nz (C k)) (g' := fun k => nz (C k)) (l := nz (C i)) (app_same (fun k => nz (C k)) i x) (Nat.le_refl (i + 1)) hx
 ·have h := of_decide_eq_false h
  have n1 := n1 (by omega)
  conv => whnf
  refine ⟨fun x y _ _ => zl_clos (c := fun i => ofZ (C i)) x y, ?_⟩
  conv => whnf
  refine ⟨_, n1, ?_⟩
  conv => whnf
  exact ⟨rfl, Sub.refl _⟩
set_option maxHeartbeats 4000000 in
theorem sub5_ok {n m : Nat} {a b : Nat → Int} (hn : n ≤ 4096) (hm : m ≤ 4096) (fa : Z.Fin n a) (fb : Z.Fin m b) (la : ∀ i, zlen (a i) ≤ 65535) (lb : ∀ i, zlen (b i) ≤ 65535) : FnOK Tryz.prog false 111 [.c (nl n a), .c (nl m b)] (.c (nl (tl (fun i => a i - b i) (max n m)) fun i => a i - b i)) := by
 have o1 := rof_ok (x := -1) (by decide) (by decide)
 have s1 := scale5_ok (n := m) (a := b) (c := -1) hm (fun i => by have := lb i; omega) (by decide)
 have f1 : Z.Fin m fun i => b i * -1 := fun k hk => by show b k * -1 = 0; rw [fb k hk]; rfl
 have tm := tl_le (fun i => b i * -1) m
 have f2 : Z.Fin (tl (fun i => b i * -1) m) fun i => b i * -1 := Z.tl_fin f1
 have a1 := add5_ok (n := n) (m := tl (fun i => b i * -1) m) (a := a) (b := fun i => b i * -1) hn (by omega) fa f2 (fun i => by have := la i; omega) fun i => by
  show zlen (b i * -1) ≤ _
  have := zlen_mul (b i) (-1)
  have : zlen (-1) = 1 := by decide
  have := lb i
  omega
 have e : (fun i => a i + b i * -1) = fun i => a i - b i := funext fun i => by omega
 rw [e] at a1
 have fs : Z.Fin (max n m) fun i => a i - b i := fun k hk => by
  show a k - b k = 0
  rw [fa k (by omega), fb k (by omega)]; rfl
 have fs' : Z.Fin (max n (tl (fun i => b i * -1) m)) fun i => a i - b i := fun k hk => by
  have h := f2 k (by omega)
  show a k - b k = 0
  have h : b k * -1 = 0 := h
  rw [fa k (by omega)]; omega
 rw [Z.tl_eq fs' fs] at a1
 clear f1 f2 fs fs' e fa fb la lb
 generalize tl (fun i => b i * -1) m = T at *
 refine fn_ok (E := E0) E0_ok Tryz.func111 rfl mixed (by kernel_rfl) (by kernel_rfl) ?_
 conv => whnf
 refine ⟨_, o1, ?_⟩
 conv => whnf
 refine ⟨_, s1, ?_⟩
 conv => whnf
 refine ⟨_, a1, ?_⟩
 conv => whnf
 exact ⟨rfl, Sub.refl _⟩
abbrev zfi (F G : Nat → Int) (k i : Nat) : Int := Z.su (fun a => F a * G (k - a)) i
set_option maxHeartbeats 8000000 in
theorem mul5_ok {n m : Nat} {F G : Nat → Int} (hF : Z.Fin n F) (hG : Z.Fin m G) (hn : n ≤ 1024) (hm : m ≤ 1024) (lF : ∀ i, zlen (F i) ≤ 65535) (lG : ∀ i, zlen (G i) ≤ 65535) (hs : ∀ k i, zlen (zfi F G k i) ≤ 131070) : FnOK Tryz.prog false 119 [.c (nl n F), .c (nl m G)] (.c (nl (tl (Z.cf F G) (n + m)) (Z.cf F G))) := by
 have s1 := normal5_n (n := n) (v := F) (by omega) fun i => by have := lF i; omega
 have s2 := normal5_n (n := m) (v := G) (by omega) fun i => by have := lG i; omega
 have f1 : Z.Fin (tl F n) F := Z.tl_fin hF
 have f2 : Z.Fin (tl G m) G := Z.tl_fin hG
 have l1 := tl_le F n
 have l2 := tl_le G m
 have fN : Z.Fin (n + m) (Z.cf F G) := (f1.cf f2).mono (by omega)
 generalize tl F n = a at *
 generalize tl G m = b at *
 have z1 : a = 0 → tl (Z.cf F G) (n + m) = 0 := fun e => Z.tl_zero (fun k => Z.su_zero fun i _ => by rw [f1 i (by omega), Int.zero_mul]) _
 have z2 : b = 0 → tl (Z.cf F G) (n + m) = 0 := fun e => Z.tl_zero (fun k => Z.su_zero fun i _ => by rw [f2 (k - i) (by omega), Int.mul_zero]) _
 have z3 : a ≠ 0 → b ≠ 0 → ∀ k, k = a + b - 1 → tl (Z.cf F G) k = tl (Z.cf F G) (n + m) := fun e1 e2 k e => Z.tl_eq (fun k hk => Z.su_zero fun i hi => by
  rcases Nat.lt_or_ge i a with c | c
  ·rw [f2 (k - i) (by omega), Int.mul_zero]
  ·rw [f1 i c, Int.zero_mul]) fN
 have s3 : ∀ k, k ≤ a + b → FnOK Tryz.prog false 114 [.c (nl k (Z.cf F G))] (.c (nl (tl (Z.cf F G) k) (Z.cf F G))) := fun k hk => normal5_n (by omega) fun i => by have h := hs i (i + 1); have h : zlen (Z.cf F G i) ≤ 131070 := h; omega
 have m0 : ∀ k i : Nat, FnOK Tryz.prog false 123 [.g (nz (F i)), .g (nz (G ((k : Int) - (i : Int)).toNat))] (.g (nz (F i * G (k - i)))) := fun k i => by
  rw [show ((k : Int) - (i : Int)).toNat = k - i by omega]
  exact zmul_n (by have := lF i; have := lG (k - i); omega)
 have a0 : ∀ k i, FnOK Tryz.prog false 122 [.g (nz (zfi F G k i)), .g (nz (F i * G (k - i)))] (.g (nz (zfi F G k (i + 1)))) := fun k i => zadd_n (by have := hs k i; omega) (by have := zlen_mul (F i) (G (k - i)); have := lF i; have := lG (k - i); omega)
 have e0 : ∀ k i, i ≤ k → (a ≤ i ∨ b ≤ k - i) → zfi F G k i = zfi F G k (i + 1) := fun k i _ h => by
  show _ = zfi F G k i + F i * G (k - i)
  rcases h with h | h
  ·rw [f1 i h, Int.zero_mul, Int.add_zero]
  ·rw [f2 (k - i) h, Int.mul_zero, Int.add_zero]
 have o0 := rof_ok (x := 0) (by decide) (by decide)
 obtain ⟨S, hS⟩ : ∃ S : Nat → Nat → Int, S = zfi F G := ⟨_, rfl⟩
 have hS1 : ∀ k, S k (k + 1) = Z.cf F G k := fun k => by rw [hS]; rfl
 have hS0 : ∀ k, S k 0 = 0 := fun k => by rw [hS]; rfl
 rw [← hS] at a0 e0
 clear hS hs lF lG hF hG f1 f2 fN
 generalize Z.cf F G = C at *
 refine fn_ok (E := E0) E0_ok Tryz.func119 rfl mixed (by kernel_rfl) (by kernel_rfl) ?_
 conv => whnf
 refine ⟨_, s1, ?_⟩
 conv => whnf
 refine ⟨_, s2, ?_⟩
 conv => whnf
 refine bcase (fun (h : gw false (decide ((a : Int) = 0)) = true) => ?_) fun (h : gw false (decide ((a : Int) = 0)) = false) => ?_
 ·have h : a ≠ 0 := by have := of_decide_eq_false (gwf h); omega
  conv => whnf
  refine bcase (fun (h2 : decide ((b : Int) = 0) = true) => ?_) fun (h2 : decide ((b : Int) = 0) = false) => ?_
  ·have h2 : b = 0 := by have := of_decide_eq_true h2; omega
   conv => whnf
   exact ⟨rfl, sub_nil0 (z2 h2)⟩
  have h2 : b ≠ 0 := by have := of_decide_eq_false h2; omega
  have z3 := z3 h h2
  conv => whnf
  refine loop_ints (fun k : Nat => gst [(5, .c (nl a F)), (6, .c (nl b G)), (7, .c (.gs 0 0)), (8, .c (.int .i64 k))] [gz k C]) (fun k => a + b - 1 - k) (fun k => k ≤ a + b - 1) 0 rfl (Weak.gen [none] rfl ⟨rfl, trivial⟩ ⟨.inl ⟨_, _, rfl, rfl, fun _ _ _ _ => rfl⟩, .inl ⟨_, _, rfl, rfl, fun _ _ _ _ => rfl⟩, rfl, ⟨_, rfl, rfl⟩, trivial⟩) (Nat.zero_le _) fun k hk => ?_
  have s3 := s3 k
  have z3 := z3 k
  have m0 := m0 k
  have a0 := a0 k
  have e0 := e0 k
  have hS1 := hS1 k
  have hS0 := hS0 k
  conv => whnf
  refine ⟨i64 (by omega) (by omega), ?_⟩
  conv => whnf
  refine ⟨i64 (by omega) (by omega), ?_⟩
  conv => whnf
  refine bcase (fun (h3 : decide ((k : Int) < (a : Int) + (b : Int) - 1) = true) => ?_) fun (h3 : decide ((k : Int) < (a : Int) + (b : Int) - 1) = false) => ?_
  ·have h3 := of_decide_eq_true h3
   conv => whnf
   refine ⟨_, o0, ?_⟩
   conv => whnf
   refine loop_ints (fun i : Nat => gst [(5, .c (nl a F)), (6, .c (nl b G)), (7, .c (.gs 0 0)), (8, .c (.int .i64 k)), (9, .c (.p 1 0 2 0 0)), (10, .c (.int .i64 i))] [gz k C, ⟨44, 2, 1, boxF (nz (S k i))⟩]) (fun i => k + 1 - i) (fun i => i ≤ k + 1) 0 rfl (Weak.gen [some 0, some 1] rfl ⟨⟨_, rfl, rfl, rfl, rfl, rfl, fun x y hx hy => regE rfl (zl_clos (c := fun i => ofZ (C i)) x y)⟩, (by rw [hS0]; exact boxU rfl rfl rfl), trivial⟩ ⟨.inl ⟨_, _, rfl, rfl, fun _ _ _ _ => rfl⟩, .inl ⟨_, _, rfl, rfl, fun _ _ _ _ => rfl⟩, ⟨_, rfl, rfl, rfl⟩, ⟨_, rfl, rfl⟩, ⟨_, rfl, rfl, rfl⟩, ⟨_, rfl, rfl⟩, trivial⟩) (Nat.zero_le _) fun i hi => ?_
   have m0 := m0 i
   have a0 := a0 i
   have e0 := e0 i
   conv => whnf
   refine bcase (fun (h4 : decide ((i : Int) ≤ k) = true) => ?_) fun (h4 : decide ((i : Int) ≤ k) = false) => ?_
   ·have h4 := of_decide_eq_true h4
    conv => whnf
    refine bcase (fun (h5 : gw true (decide ((i : Int) < a)) = true) => ?_) fun (h5 : gw true (decide ((i : Int) < a)) = false) => ?_
    ·have h5 := of_decide_eq_true (gw_true.1 h5)
     conv => whnf
     refine ⟨i64 (by omega) (by omega), ?_⟩
     conv => whnf
     refine bcase (fun (h6 : decide ((k : Int) - (i : Int) < b) = true) => ?_) fun (h6 : decide ((k : Int) - (i : Int) < b) = false) => ?_
     ·have h6 := of_decide_eq_true h6
      conv => whnf
      refine ⟨by omega, by omega, ?_⟩
      conv => whnf
      refine ⟨i64 (by omega) (by omega), ?_⟩
      conv => whnf
      refine ⟨by omega, by omega, ?_⟩
      conv => whnf
      refine ⟨_, m0, ?_⟩
      conv => whnf
      refine ⟨_, a0, ?_⟩
      conv => whnf
      refine ⟨i64 (by omega) (by omega), ?_⟩
      conv => whnf
      exact ⟨i + 1, by omega, Weak.gen [some 0, some 1] rfl ⟨⟨_, rfl, rfl, rfl, rfl, rfl, fun x y hx hy => regE rfl (zl_clos (c := fun i => ofZ (C i)) x y)⟩, boxU rfl rfl rfl, trivial⟩ ⟨.inl ⟨_, _, rfl, rfl, fun _ _ _ _ => rfl⟩, .inl ⟨_, _, rfl, rfl, fun _ _ _ _ => rfl⟩, ⟨_, rfl, rfl, rfl⟩, ⟨_, rfl, rfl⟩, ⟨_, rfl, rfl, rfl⟩, ⟨_, rfl, rfl⟩, trivial⟩, by omega⟩
     ·have h6 := of_decide_eq_false h6
      have e0 := e0 (by omega) (.inr (by omega))
      conv => whnf
      refine ⟨i64 (by omega) (by omega), ?_⟩
      conv => whnf
      exact ⟨i + 1, by omega, Weak.gen [some 0, some 1] rfl ⟨⟨_, rfl, rfl, rfl, rfl, rfl, fun x y hx hy => regE rfl (zl_clos (c := fun i => ofZ (C i)) x y)⟩, (by rw [← e0]; exact boxK rfl rfl), trivial⟩ ⟨.inl ⟨_, _, rfl, rfl, fun _ _ _ _ => rfl⟩, .inl ⟨_, _, rfl, rfl, fun _ _ _ _ => rfl⟩, ⟨_, rfl, rfl, rfl⟩, ⟨_, rfl, rfl⟩, ⟨_, rfl, rfl, rfl⟩, ⟨_, rfl, rfl⟩, trivial⟩, by omega⟩
    ·have h5 := of_decide_eq_false (gw_false.1 h5)
     have e0 := e0 (by omega) (.inl (by omega))
     conv => whnf
     refine ⟨i64 (by omega) (by omega), ?_⟩
     conv => whnf
     exact ⟨i + 1, by omega, Weak.gen [some 0, some 1] rfl ⟨⟨_, rfl, rfl, rfl, rfl, rfl, fun x y hx hy => regE rfl (zl_clos (c := fun i => ofZ (C i)) x y)⟩, (by rw [← e0]; exact boxK rfl rfl), trivial⟩ ⟨.inl ⟨_, _, rfl, rfl, fun _ _ _ _ => rfl⟩, .inl ⟨_, _, rfl, rfl, fun _ _ _ _ => rfl⟩, ⟨_, rfl, rfl, rfl⟩, ⟨_, rfl, rfl⟩, ⟨_, rfl, rfl, rfl⟩, ⟨_, rfl, rfl⟩, trivial⟩, by omega⟩
   ·have h4 := of_decide_eq_false h4
    have ei : S k i = C k := by rw [show i = k + 1 by omega]; exact hS1
    conv => whnf
    refine ⟨by show k + 1 ≤ 16777216; omega, fun x y hx hy => one_nz (S k i) _ x y hx hy, ?_⟩
    conv => whnf
    refine ⟨i64 (by omega) (by omega), ?_⟩
    conv => whnf
    refine ⟨k + 1, by omega, Weak.gen [some 0] rfl ⟨⟨_, rfl, rfl, rfl, rfl, rfl, fun x y hx hy => regE ?_ (zl_clos (c := fun i => ofZ (C i)) x y)⟩, trivial⟩ ⟨.inl ⟨_, _, rfl, rfl, fun _ _ _ _ => rfl⟩, .inl ⟨_, _, rfl, rfl, fun _ _ _ _ => rfl⟩, ⟨_, rfl, rfl, rfl⟩, ⟨_, rfl, rfl⟩, trivial⟩, by omega⟩
    exact appG (sz := 2) (g := fun k => nz (C k)) (g' := fun k => nz (C k)) (l := nz (S k i)) (by rw [ei]; exact app_same (fun k => nz (C k)) k x) (Nat.le_refl (k + 1)) hx
  ·have h3 := of_decide_eq_false h3
   have s3 := s3 (by omega)
   rw [z3 (by omega)] at s3
   conv => whnf
   refine ⟨fun x y _ _ => zl_clos (c := fun i => ofZ (C i)) x y, ?_⟩
   conv => whnf
   refine ⟨_, s3, ?_⟩
   conv => whnf
   exact ⟨rfl, Sub.refl _⟩
 ·have h : a = 0 := by have := of_decide_eq_true (gwf' h); omega
  conv => whnf
  exact ⟨rfl, sub_nil0 (z1 h)⟩
end Rf
end Go.Proofs.YtmbejakmeijcbaaGreat
/- The document's polynomials over the integers: shifts, division by a monic one. -/
namespace Go.Proofs.YtmbejakmeijcbaaGreat
open Go.RowKit
namespace Z
def sh (k : Nat) (a : Nat → Int) (i : Nat) : Int := if i < k then 0 else a (i - k)
def mo (c : Int) (k i : Nat) : Int := if i = k then c else 0
def lo (k : Nat) (q : Nat → Int) (i : Nat) : Int := if i < k then q i else 0
def hi (k : Nat) (q : Nat → Int) (i : Nat) : Int := if k ≤ i then q i else 0
theorem lo_fin (k : Nat) (q : Nat → Int) : Fin k (lo k q) := fun i hi => if_neg (by omega)
theorem mo_fin (c : Int) (k : Nat) : Fin (k + 1) (mo c k) := fun i hi => if_neg (by omega)
theorem sh_one (c : Int) (k : Nat) : sh k (fun i => if i = 0 then c else 0) = mo c k := funext fun i => by
 unfold sh mo
 by_cases h : i < k
 ·rw [if_pos h, if_neg (by omega)]
 ·rw [if_neg h]
  show (if i - k = 0 then c else 0) = _
  by_cases e : i = k
  ·rw [if_pos (by omega), if_pos e]
  ·rw [if_neg (by omega), if_neg e]
theorem lo_next {k : Nat} {q : Nat → Int} : lo (tl q k) q = lo k q := funext fun i => by
 unfold lo
 by_cases h : i < tl q k
 ·rw [if_pos h, if_pos (Nat.lt_of_lt_of_le h (tl_le q k))]
 ·rw [if_neg h]
  split
  ·rename_i h2
   exact (tl_behind (by omega) h2).symm
  ·rfl
theorem lo_split (k : Nat) (q : Nat → Int) (i : Nat) : lo (k + 1) q i = lo k q i + mo (q k) k i := by
 unfold lo mo
 by_cases e : i = k
 ·rw [if_pos (by omega), if_neg (by omega), if_pos e, e, Int.zero_add]
 ·rw [if_neg e, Int.add_zero]
  by_cases h : i < k
  ·rw [if_pos h, if_pos (by omega)]
  ·rw [if_neg h, if_neg (by omega)]
theorem hi_next {k : Nat} {q : Nat → Int} : (fun i => hi (k + 1) q i + mo (q k) k i) = hi (tl q k) q := funext fun i => by
 have h1 := tl_le q k
 show hi (k + 1) q i + mo (q k) k i = _
 unfold hi mo
 by_cases e : i = k
 ·rw [if_neg (by omega), if_pos e, if_pos (by omega), e, Int.zero_add]
 ·rw [if_neg e, Int.add_zero]
  by_cases h : k + 1 ≤ i
  ·rw [if_pos h, if_pos (by omega)]
  ·rw [if_neg h]
   split
   ·rename_i h2
    exact (tl_behind h2 (by omega)).symm
   ·rfl
theorem part_fin {d k : Nat} {q b : Nat → Int} (fb : Fin (d + 1) b) : Fin (k + d) (cf (lo k q) b) := fun j hj => su_zero fun i hi => by
 rcases Nat.lt_or_ge i k with c | c
 ·rw [fb (j - i) (by omega), Int.mul_zero]
 ·rw [lo_fin k q i c, Int.zero_mul]
theorem part_top {d k : Nat} {q b : Nat → Int} (hb : Mon d b) (hk : 1 ≤ k) : cf (lo k q) b (k - 1 + d) = q (k - 1) := by
 rw [cf_top hb (by rw [show k - 1 + 1 = k by omega]; exact lo_fin k q)]
 exact if_pos (by omega)
theorem part_zero (q b : Nat → Int) (j : Nat) : cf (lo 0 q) b j = 0 := su_zero fun i _ => by
 rw [lo_fin 0 q i (Nat.zero_le i), Int.zero_mul]
theorem part_next {k : Nat} {q b : Nat → Int} : (fun j => cf (lo (k + 1) q) b j - cf (mo (q k) k) b j) = cf (lo (tl q k) q) b := funext fun j => by
 rw [cf_congr (fun i => lo_split k q i) (fun _ => rfl) j, cf_add_left, lo_next]
 omega
end Z
namespace Rf
theorem app_clos {k : Nat} {f g : Nat → Nat → Cell} (hf : ∀ x y, (f x y).clos = true) (hg : ∀ x y, (g x y).clos = true) (x y : Nat) : (appF k f g x y).clos = true := by
 unfold appF
 split
 ·exact hf x y
 ·exact hg _ y
set_option maxHeartbeats 4000000 in
theorem shift5_ok {n k : Nat} {a : Nat → Int} (hn : n ≤ 4096) (hk : k ≤ 4096) (h0 : 1 ≤ n) (ht : a (n - 1) ≠ 0) (fa : Z.Fin n a) (la : ∀ i, zlen (a i) ≤ 1048576) : FnOK Tryz.prog false 112 [.c (nl n a), .c (.int .i64 k)] (.c (nl (k + n) (Z.sh k a))) := by
 have n0 := normal5_n (n := n) (v := a) (by omega) la
 rw [Z.tl_is fa fa (.inr ht)] at n0
 have o0 := rof_ok (x := 0) (by decide) (by decide)
 have g : ∀ i, i = k → Sub (.c (.row 2 (i + n) (appF i (zlF fun _ => ofZ 0) (zlF fun j => ofZ (a j))))) (.c (nl (k + n) (Z.sh k a))) := fun i e => by
  subst e
  refine subRowG rfl fun x y hx hy => ?_
  unfold appF
  split
  ·rename_i c
   exact zlF_eq (c := fun _ => ofZ 0) (e := fun j => ofZ (Z.sh i a j)) (by show ofZ 0 = ofZ (Z.sh i a x); rw [show Z.sh i a x = 0 from if_pos c])
  ·rename_i c
   exact zlF_eq (c := fun j => ofZ (a j)) (e := fun j => ofZ (Z.sh i a j)) (by show ofZ (a (x - i)) = ofZ (Z.sh i a x); rw [show Z.sh i a x = a (x - i) from if_neg c])
 clear ht fa la
 refine fn_ok (E := E0) E0_ok Tryz.func112 rfl mixed (by kernel_rfl) (by kernel_rfl) ?_
 conv => whnf
 refine ⟨_, n0, ?_⟩
 conv => whnf
 refine bneg (show decide ((n : Int) = 0) = false from decide_eq_false (by omega)) ?_
 conv => whnf
 refine loop_ints (fun i : Nat => gst [(1, .c (.int .i64 k)), (5, .c (nl n a)), (6, .c (.gs 0 0)), (7, .c (.int .i64 i))] [gz i fun _ => 0]) (fun i => k - i) (fun i => i ≤ k) 0 rfl (Weak.gen [none] rfl ⟨rfl, trivial⟩ ⟨⟨_, rfl, rfl⟩, .inl ⟨_, _, rfl, rfl, fun _ _ _ _ => rfl⟩, rfl, ⟨_, rfl, rfl⟩, trivial⟩) (Nat.zero_le _) fun i hi => ?_
 have g := g i
 conv => whnf
 refine bcase (fun (h : decide ((i : Int) < k) = true) => ?_) fun (h : decide ((i : Int) < k) = false) => ?_
 ·have h := of_decide_eq_true h
  conv => whnf
  refine ⟨_, o0, ?_⟩
  conv => whnf
  refine ⟨by show i + 1 ≤ 16777216; omega, fun x y hx hy => one_nz 0 _ x y hx hy, ?_⟩
  conv => whnf
  refine ⟨i64 (by omega) (by omega), ?_⟩
  conv => whnf
  refine ⟨i + 1, by omega, Weak.gen [some 0] rfl ⟨⟨_, rfl, rfl, rfl, rfl, rfl, fun x y hx hy => regE ?_ (zl_clos (c := fun _ => ofZ 0) x y)⟩, trivial⟩ ⟨⟨_, rfl, rfl⟩, .inl ⟨_, _, rfl, rfl, fun _ _ _ _ => rfl⟩, ⟨_, rfl, rfl, rfl⟩, ⟨_, rfl, rfl⟩, trivial⟩, by omega⟩
  exact appG (sz := 2) (g := fun _ => nz 0) (g' := fun _ => nz 0) (l := nz 0) (app_same (fun _ => nz 0) i x) (Nat.le_refl (i + 1)) hx
 ·have h := of_decide_eq_false h
  have g := g (by omega)
  conv => whnf
  refine ⟨by show i + n ≤ 16777216; omega, fun x y hx hy => ?_, ?_⟩
  ·match y, hy with
   | 0, _ => exact ⟨rfl, fun _ => rfl⟩
   | 1, _ => exact ⟨rfl, fun _ => rfl⟩
  conv => whnf
  refine ⟨fun x y _ _ => app_clos (fun x y => zl_clos (c := fun _ => ofZ 0) x y) (fun x y => zl_clos (c := fun j => ofZ (a j)) x y) x y, ?_⟩
  conv => whnf
  exact ⟨rfl, g⟩
theorem rowF_clos2 {x : Int} (i j : Nat) (hi : i < 1) (hj : j < 2) : (rowF 2 (nz x) i j).clos = true := by
 match i, j, hi, hj with
 | 0, 0, _, _ => rfl
 | 0, 1, _, _ => rfl
abbrev lenR (d k : Nat) : Nat := if k = 0 then 0 else k + d
abbrev lenQ (t k : Nat) : Nat := if k = t then 0 else t
set_option maxHeartbeats 8000000 in
theorem divide5_ok {d t : Nat} {q b : Nat → Int} (hd : d ≤ 1000) (ht : t ≤ 1000) (hb : Z.Mon d b) (fq : Z.Fin t q) (hq : t = 0 ∨ q (t - 1) ≠ 0) (lq : ∀ i, zlen (q i) ≤ 60000) (lb : ∀ i, zlen (b i) ≤ 60000) (lr : ∀ k j, zlen (Z.cf (Z.lo k q) b j) ≤ 60000) (lm : ∀ k j i, zlen (zfi (Z.mo (q k) k) b j i) ≤ 60000) : FnOK Tryz.prog false 81 [.c (nl (lenR d t) (Z.cf (Z.lo t q) b)), .c (nl (d + 1) b)] (.t2 (.c (nl t q)) (.c (.bool true))) := by
 have lb' : ∀ i, zlen (b i) ≤ 1048576 := fun i => by have := lb i; omega
 have tb : tl b (d + 1) = d + 1 := Z.tl_is hb.fin hb.fin (.inr (by rw [Nat.add_sub_cancel, hb.top]; decide))
 have fR : ∀ k, Z.Fin (lenR d k) (Z.cf (Z.lo k q) b) := fun k j hj => by
  by_cases e : k = 0
  ·rw [e]; exact Z.part_zero q b j
  ·exact Z.part_fin hb.fin j (by rw [show lenR d k = k + d from if_neg e] at hj; exact hj)
 have tR : ∀ k, (k = 0 ∨ q (k - 1) ≠ 0) → (lenR d k = 0 ∨ Z.cf (Z.lo k q) b (lenR d k - 1) ≠ 0) := fun k h => by
  rcases h with h | h
  ·exact .inl (if_pos h)
  ·by_cases e : k = 0
   ·exact .inl (if_pos e)
   ·refine .inr ?_
    rw [show lenR d k = k + d from if_neg e, show k + d - 1 = k - 1 + d by omega, Z.part_top hb (by omega)]
    exact h
 have n0 : FnOK Tryz.prog false 114 [.c (nl (lenR d t) (Z.cf (Z.lo t q) b))] (.c (nl (lenR d t) (Z.cf (Z.lo t q) b))) := by
  have hlen : lenR d t ≤ 1048576 := by unfold lenR; split <;> omega
  have h := normal5_n (n := lenR d t) (v := Z.cf (Z.lo t q) b) hlen fun i => by have := lr t i; omega
  rwa [Z.tl_is (fR t) (fR t) (tR t hq)] at h
 have d0 := degree5_n (n := d + 1) (v := b) (by omega) lb'
 rw [tb, show ((d + 1 : Nat) : Int) - 1 = (d : Int) by omega] at d0
 have l0 : FnOK Tryz.prog false 117 [.c (nl (d + 1) b)] (.g (nz 1)) := by
  have h := lead5_n (n := d + 1) (v := b) (by omega) lb'
  have e : ldc (d + 1) b = 1 := by
   show co b (d + 1) ((tl b (d + 1) : Nat) - 1) = 1
   rw [tb]
   unfold co
   rw [if_pos ⟨by omega, by omega⟩, show (((d + 1 : Nat) : Int) - 1).toNat = d by omega, hb.top]
  rwa [e] at h
 have g0 : FnOK Tryz.prog false 86 [.g (nz 0)] (.c (.int .i64 0)) := by
  have h := zsign_ok (a := ofZ 0) (wr_nz (by decide))
  rwa [ofZ_val] at h
 -- the round at a place k + 1 at which there is something
 have e0 : ∀ k, FnOK Tryz.prog false 116 [.g (nz (Z.cf (Z.lo (k + 1) q) b (((k + 1 + d : Nat) : Int) - 1).toNat)), .g (nz 1)] (.t2 (.g (nz (q k))) (.g (nz 0))) := fun k => by
  have e1 : Z.cf (Z.lo (k + 1) q) b (((k + 1 + d : Nat) : Int) - 1).toNat = q k := by
   rw [show (((k + 1 + d : Nat) : Int) - 1).toNat = k + 1 - 1 + d by omega]
   exact Z.part_top hb (by omega)
  rw [e1]
  have h := euclid_ok (a := ofZ (q k)) (b := ofZ 1) (wr_nz (by have := lq k; omega)) (wr_nz (by decide)) (by rw [ofZ_val]; have := lq k; omega) (by rw [ofZ_val]; decide) (by rw [ofZ_val]; decide)
  rw [ofZ_val, ofZ_val, Int.ediv_one, Int.emod_one] at h
  exact h
 have s0 : ∀ k, k + 1 ≤ t → q k ≠ 0 → FnOK Tryz.prog false 112 [.c (.row 2 1 (rowF 2 (nz (q k)))), .c (.int .i64 (((k + 1 + d : Nat) : Int) - 1 - (d : Int)))] (.c (nl (k + 1) (Z.mo (q k) k))) := fun k hk h => by
  have s := shift5_ok (n := 1) (k := k) (a := fun i => if i = 0 then q k else 0) (by omega) (by omega) (Nat.le_refl 1) h (fun i hi => if_neg (by omega)) fun i => by
   show zlen (if i = 0 then q k else 0) ≤ _
   split
   ·have := lq k; omega
   ·decide
  rw [Z.sh_one] at s
  rw [show ((k + 1 + d : Nat) : Int) - 1 - (d : Int) = (k : Nat) by omega]
  refine arg_ok s fun D w vs hh => ?_
  match vs, hh with
  | [x, y], ⟨h1, h2, _⟩ =>
   refine ⟨subRowG rfl (fun i j hi hj => ?_) D w x h1, h2, trivial⟩
   match i, j, hi, hj with
   | 0, 0, _, _ => rfl
   | 0, 1, _, _ => rfl
 have a0 : ∀ k, k + 1 ≤ t → q k ≠ 0 → FnOK Tryz.prog false 118 [.c (nl (lenQ t (k + 1)) (Z.hi (k + 1) q)), .c (nl (k + 1) (Z.mo (q k) k))] (.c (nl (lenQ t (tl q k)) (Z.hi (tl q k) q))) := fun k hk h => by
  have hle := tl_le q k
  have fh : ∀ j, Z.Fin t (Z.hi j q) := fun j i hi => by
   unfold Z.hi
   split
   ·exact fq i hi
   ·rfl
  have fk : Z.Fin (lenQ t (k + 1)) (Z.hi (k + 1) q) := fun i hi => by
   by_cases e : k + 1 = t
   ·unfold Z.hi
    split
    ·exact fq i (by omega)
    ·rfl
   ·exact fh _ i (by rw [show lenQ t (k + 1) = t from if_neg e] at hi; exact hi)
  have lh : ∀ j i, zlen (Z.hi j q i) ≤ 524286 := fun j i => by
   unfold Z.hi
   split
   ·have := lq i; omega
   ·decide
  have lmo : ∀ i, zlen (Z.mo (q k) k i) ≤ 524286 := fun i => by
   unfold Z.mo
   split
   ·have := lq k; omega
   ·decide
  have hb1 : lenQ t (k + 1) ≤ 4096 := by unfold lenQ; split <;> omega
  have s := add5_ok (n := lenQ t (k + 1)) (m := k + 1) hb1 (by omega) fk (Z.mo_fin (q k) k) (lh _) lmo
  rw [Z.hi_next] at s
  have e1 : tl (Z.hi (tl q k) q) (max (lenQ t (k + 1)) (k + 1)) = lenQ t (tl q k) := by
   have e2 : lenQ t (tl q k) = t := if_neg (by omega)
   rw [e2]
   refine Z.tl_is (fun i hi => ?_) (fh _) (.inr ?_)
   ·by_cases e : k + 1 = t
    ·exact fh _ i (by omega)
    ·exact fh _ i (by have e3 : lenQ t (k + 1) = t := if_neg e; omega)
   ·unfold Z.hi
    rw [if_pos (by omega)]
    rcases hq with h' | h'
    ·omega
    ·exact h'
  rwa [e1] at s
 have m0 : ∀ k, k + 1 ≤ t → FnOK Tryz.prog false 119 [.c (nl (k + 1) (Z.mo (q k) k)), .c (nl (d + 1) b)] (.c (nl (tl (Z.cf (Z.mo (q k) k) b) (k + 1 + (d + 1))) (Z.cf (Z.mo (q k) k) b))) := fun k hk =>
  mul5_ok (Z.mo_fin (q k) k) hb.fin (by omega) (by omega) (fun i => by
   unfold Z.mo
   split
   ·have := lq k; omega
   ·decide) (fun i => by have := lb i; omega) fun j i => by have := lm k j i; omega
 have u0 : ∀ k, k + 1 ≤ t → FnOK Tryz.prog false 111 [.c (nl (lenR d (k + 1)) (Z.cf (Z.lo (k + 1) q) b)), .c (nl (tl (Z.cf (Z.mo (q k) k) b) (k + 1 + (d + 1))) (Z.cf (Z.mo (q k) k) b))] (.c (nl (lenR d (tl q k)) (Z.cf (Z.lo (tl q k) q) b))) := fun k hk => by
  have hle := tl_le q k
  have hl := tl_le (Z.cf (Z.mo (q k) k) b) (k + 1 + (d + 1))
  have fm : Z.Fin (tl (Z.cf (Z.mo (q k) k) b) (k + 1 + (d + 1))) (Z.cf (Z.mo (q k) k) b) := Z.tl_fin ((Z.mo_fin (q k) k).cf hb.fin)
  have hk1 : lenR d (k + 1) ≤ 4096 := by unfold lenR; split <;> omega
  have s := sub5_ok (n := lenR d (k + 1)) (m := tl (Z.cf (Z.mo (q k) k) b) (k + 1 + (d + 1))) hk1 (by omega) (fR (k + 1)) fm (fun i => by have := lr (k + 1) i; omega) fun i => by have h := lm k i (i + 1); have h : zlen (Z.cf (Z.mo (q k) k) b i) ≤ 60000 := h; omega
  rw [Z.part_next] at s
  have e1 : tl (Z.cf (Z.lo (tl q k) q) b) (max (lenR d (k + 1)) (tl (Z.cf (Z.mo (q k) k) b) (k + 1 + (d + 1)))) = lenR d (tl q k) := by
   refine Z.tl_is (fun i hi => fR (tl q k) i ?_) (fR _) (tR _ ?_)
   ·have e2 : lenR d (k + 1) = k + 1 + d := if_neg (by omega)
    unfold lenR
    split
    ·omega
    ·omega
   ·rcases Nat.eq_zero_or_pos (tl q k) with e | e
    ·exact .inl e
    ·exact .inr (tl_top (n := k) (k := tl q k - 1) (by omega))
  rwa [e1] at s
 clear lq lb lb' lr lm fR tR tb
 obtain ⟨R, hR⟩ : ∃ R : Nat → Nat → Int, R = fun k => Z.cf (Z.lo k q) b := ⟨_, rfl⟩
 obtain ⟨G, hG⟩ : ∃ G : Nat → Nat → Int, G = fun k => Z.hi k q := ⟨_, rfl⟩
 have n1 : FnOK Tryz.prog false 114 [.c (nl (lenR d t) (Z.cf (Z.lo t q) b))] (.c (nl (lenR d t) (R t))) := by rw [hR]; exact n0
 have e1 : ∀ k, FnOK Tryz.prog false 116 [.g (nz (R (k + 1) (((k + 1 + d : Nat) : Int) - 1).toNat)), .g (nz 1)] (.t2 (.g (nz (q k))) (.g (nz 0))) := by rw [hR]; exact e0
 have a1 : ∀ k, k + 1 ≤ t → q k ≠ 0 → FnOK Tryz.prog false 118 [.c (nl (lenQ t (k + 1)) (G (k + 1))), .c (nl (k + 1) (Z.mo (q k) k))] (.c (nl (lenQ t (tl q k)) (G (tl q k)))) := by rw [hG]; exact a0
 have u1 : ∀ k, k + 1 ≤ t → FnOK Tryz.prog false 111 [.c (nl (lenR d (k + 1)) (R (k + 1))), .c (nl (tl (Z.cf (Z.mo (q k) k) b) (k + 1 + (d + 1))) (Z.cf (Z.mo (q k) k) b))] (.c (nl (lenR d (tl q k)) (R (tl q k)))) := by rw [hR]; exact u0
 have r1 : Sub (.t2 (.c (nl (lenQ t 0) (G 0))) (.c (.bool true))) (.t2 (.c (nl t q)) (.c (.bool true))) := by
  rintro D w v ⟨x, y, h1, h2, h3⟩
  refine ⟨x, y, h1, subRowG ?_ (fun i j hi _ => ?_) D w x h2, h3⟩
  ·unfold lenQ
   split
   ·rename_i e; exact e
   ·rfl
  ·rw [hG]
   exact zlF_eq (c := fun i => ofZ (Z.hi 0 q i)) (e := fun i => ofZ (q i)) (congrArg ofZ (if_pos (Nat.zero_le i)))
 have st0 : ∀ i j, i < lenQ t t → j < 2 → zlF (fun i => ofZ (G t i)) i j = zlF (fun i => ofZ (G t i)) i j := fun _ _ _ _ => rfl
 clear hR hG n0 e0 a0 u0 st0
 generalize Z.cf (Z.lo t q) b = A0 at *
 obtain ⟨M, hM⟩ : ∃ M : Nat → Nat → Int, M = fun k => Z.cf (Z.mo (q k) k) b := ⟨_, rfl⟩
 obtain ⟨lM, hlM⟩ : ∃ lM : Nat → Nat, lM = fun k => tl (Z.cf (Z.mo (q k) k) b) (k + 1 + (d + 1)) := ⟨_, rfl⟩
 have m1 : ∀ k, k + 1 ≤ t → FnOK Tryz.prog false 119 [.c (nl (k + 1) (Z.mo (q k) k)), .c (nl (d + 1) b)] (.c (nl (lM k) (M k))) := by rw [hM, hlM]; exact m0
 have u2 : ∀ k, k + 1 ≤ t → FnOK Tryz.prog false 111 [.c (nl (lenR d (k + 1)) (R (k + 1))), .c (nl (lM k) (M k))] (.c (nl (lenR d (tl q k)) (R (tl q k)))) := by rw [hM, hlM]; exact u1
 clear hM hlM m0 u1
 have hnext : ∀ k, tl q k = 0 ∨ q (tl q k - 1) ≠ 0 := fun k => by
  rcases Nat.eq_zero_or_pos (tl q k) with e | e
  ·exact .inl e
  ·exact .inr (tl_top (n := k) (k := tl q k - 1) (by omega))
 refine fn_ok (E := E0) E0_ok Tryz.func81 rfl mixed (by kernel_rfl) (by kernel_rfl) ?_
 conv => whnf
 refine ⟨_, n1, ?_⟩
 conv => whnf
 refine ⟨_, d0, ?_⟩
 conv => whnf
 refine loop_ints (fun k : Nat => gst [(1, .c (nl (d + 1) b)), (6, .c (nl (lenR d k) (R k))), (7, .c (.int .i64 d)), (8, .c (nl (lenQ t k) (G k)))] []) (fun k => k) (fun k => k ≤ t ∧ (k = 0 ∨ q (k - 1) ≠ 0)) t rfl (Weak.gen [] rfl trivial ⟨.inl ⟨_, _, rfl, rfl, fun _ _ _ _ => rfl⟩, .inl ⟨_, _, rfl, rfl, fun _ _ _ _ => rfl⟩, ⟨_, rfl, rfl⟩, .inr (.inl ⟨if_pos rfl, rfl⟩), trivial⟩) ⟨Nat.le_refl t, hq⟩ fun k ⟨hk, hqk⟩ => ?_
 rcases Nat.eq_zero_or_pos k with e | e
 ·have r2 : Sub (.t2 (.c (nl (lenQ t k) (G k))) (.c (.bool true))) (.t2 (.c (nl t q)) (.c (.bool true))) := by rw [e]; exact r1
  have e2 : lenR d k = 0 := if_pos e
  have c1 : decide ((d : Int) ≤ ((lenR d k : Nat) : Int) - 1) = false := decide_eq_false (by omega)
  have c2 : decide (((lenR d k : Nat) : Int) = 0) = true := decide_eq_true (by omega)
  have hl : lenR d k ≤ 4096 := by omega
  have r3 : Sub (.t2 (.c (nl (lenQ t k) (G k))) (.c (.bool (decide (((lenR d k : Nat) : Int) = 0))))) (.t2 (.c (nl t q)) (.c (.bool true))) := by rw [c2]; exact r2
  clear e2 c2 r2
  generalize lenR d k = lr at *
  conv => whnf
  refine ⟨i64 (by omega) (by omega), ?_⟩
  conv => whnf
  refine bneg c1 ?_
  conv => whnf
  exact ⟨rfl, r3⟩
 ·obtain ⟨j, rfl⟩ : ∃ j, k = j + 1 := ⟨k - 1, by omega⟩
  have hqj : q j ≠ 0 := by
   rcases hqk with h | h
   ·omega
   ·exact h
  have e1 := e1 j
  have s1 := s0 j hk hqj
  have a2 := a1 j hk hqj
  have m2 := m1 j hk
  have u3 := u2 j hk
  have hle := tl_le q j
  have hnx := hnext j
  have e2 : lenR d (j + 1) = j + 1 + d := if_neg (by omega)
  rw [e2] at u3 ⊢
  conv => whnf
  refine ⟨i64 (by omega) (by omega), ?_⟩
  conv => whnf
  refine bpos (show decide ((d : Int) ≤ ((j + 1 + d : Nat) : Int) - 1) = true from decide_eq_true (by omega)) ?_
  conv => whnf
  refine ⟨i64 (by omega) (by omega), ?_⟩
  conv => whnf
  refine ⟨by omega, by show ((j + 1 + d : Nat) : Int) - 1 < ((j + 1 + d : Nat) : Int); omega, ?_⟩
  conv => whnf
  refine ⟨_, l0, ?_⟩
  conv => whnf
  refine ⟨_, e1, ?_⟩
  conv => whnf
  refine ⟨_, g0, ?_⟩
  conv => whnf
  refine ⟨i64 (by omega) (by omega), ?_⟩
  conv => whnf
  refine ⟨i64 (by omega) (by omega), ?_⟩
  conv => whnf
  refine ⟨fun x y hx hy => rowF_clos2 x y hx hy, ?_⟩
  conv => whnf
  refine ⟨_, s1, ?_⟩
  conv => whnf
  refine ⟨_, a2, ?_⟩
  conv => whnf
  refine ⟨_, m2, ?_⟩
  conv => whnf
  refine ⟨_, u3, ?_⟩
  conv => whnf
  exact ⟨tl q j, by omega, Weak.gen [] rfl trivial ⟨.inl ⟨_, _, rfl, rfl, fun _ _ _ _ => rfl⟩, .inl ⟨_, _, rfl, rfl, fun _ _ _ _ => rfl⟩, ⟨_, rfl, rfl⟩, .inl ⟨_, _, rfl, rfl, fun _ _ _ _ => rfl⟩, trivial⟩, by omega, hnx⟩
end Rf
end Go.Proofs.YtmbejakmeijcbaaGreat
/- The document's cyclotomic polynomials: powers less one, products, the recursion; the law over what its calls hand back. -/
namespace Go.Proofs.YtmbejakmeijcbaaGreat
open Go.RowKit
namespace Z
def one (i : Nat) : Int := if i = 0 then 1 else 0
def xn1 (n i : Nat) : Int := mo 1 n i - one i
theorem one_fin : Fin 1 one := fun i hi => if_neg (by omega)
theorem xn1_fin {n : Nat} (h : 1 ≤ n) : Fin (n + 1) (xn1 n) := fun i hi => by
 show mo 1 n i - one i = 0
 rw [mo_fin 1 n i hi, one_fin i (by omega)]; rfl
theorem xn1_top {n : Nat} (h : 1 ≤ n) : xn1 n n = 1 := by
 show mo 1 n n - one n = 1
 rw [show mo 1 n n = 1 from if_pos rfl, one_fin n h]; rfl
end Z
namespace Rf
abbrev ints (n : Nat) (d : Nat → Nat) : Cell := .row 1 n fun i _ => .int .i64 (d i)
theorem of5_one : FnOK Tryz.prog false 113 [.c (.row 1 1 (rowF 1 [.int .i64 1]))] (.c (nl 1 Z.one)) := run_same (inl := fun _ => false) (by kernel_rfl)
set_option maxHeartbeats 4000000 in
theorem power15_ok {n : Nat} (h1 : 1 ≤ n) (hn : n ≤ 1000) : FnOK Tryz.prog false 80 [.c (.int .i64 n)] (.c (nl (n + 1) (Z.xn1 n))) := by
 have o0 := of5_one
 have s0 := shift5_ok (n := 1) (k := n) (a := Z.one) (by omega) (by omega) (Nat.le_refl 1) (by decide) Z.one_fin fun i => by
  unfold Z.one
  split
  ·decide
  ·decide
 have e : Z.sh n Z.one = Z.mo 1 n := Z.sh_one 1 n
 rw [e] at s0
 have u0 := sub5_ok (n := n + 1) (m := 1) (a := Z.mo 1 n) (b := Z.one) (by omega) (by omega) (Z.mo_fin 1 n) Z.one_fin (fun i => by
  unfold Z.mo
  split
  ·decide
  ·decide) fun i => by
  unfold Z.one
  split
  ·decide
  ·decide
 have e2 : (fun i => Z.mo 1 n i - Z.one i) = Z.xn1 n := rfl
 rw [e2, Z.tl_is (k := n + 1) ((Z.xn1_fin h1).mono (by omega)) (Z.xn1_fin h1) (.inr (by rw [Nat.add_sub_cancel, Z.xn1_top h1]; decide))] at u0
 clear e e2
 generalize Z.xn1 n = X at *
 refine fn_ok (E := E0) E0_ok Tryz.func80 rfl mixed (by kernel_rfl) (by kernel_rfl) ?_
 conv => whnf
 refine ⟨fun i j hi hj => ?_, ?_⟩
 ·match i, j, hi, hj with
  | 0, 0, _, _ => rfl
 conv => whnf
 refine ⟨_, o0, ?_⟩
 conv => whnf
 refine ⟨_, s0, ?_⟩
 conv => whnf
 refine ⟨fun i j hi hj => ?_, ?_⟩
 ·match i, j, hi, hj with
  | 0, 0, _, _ => rfl
 conv => whnf
 refine ⟨_, o0, ?_⟩
 conv => whnf
 refine ⟨_, u0, ?_⟩
 conv => whnf
 exact ⟨rfl, Sub.refl _⟩
set_option maxHeartbeats 4000000 in
theorem poly15_ok {n k : Nat} {dv m L : Nat → Nat} {P S : Nat → Nat → Int} (hk : k ≤ 1000) (k1 : 1 ≤ k) (hP : FnOK Tryz.prog false 80 [.c (.int .i64 n)] (.c (nl (L 0) (S 0)))) (hD : FnOK Tryz.prog false 61 [.c (.int .i64 n)] (.c (ints k dv))) (hQ : ∀ i, i + 1 < k → FnOK Tryz.prog false 47 [.c (.int .i64 (dv i))] (.c (nl (m i) (P i))))
  (hd : ∀ i, i + 1 < k → FnOK Tryz.prog false 81 [.c (nl (L i) (S i)), .c (nl (m i) (P i))] (.t2 (.c (nl (L (i + 1)) (S (i + 1)))) (.c (.bool true)))) : FnOK Tryz.prog false 47 [.c (.int .i64 n)] (.c (nl (L (k - 1)) (S (k - 1)))) := by
 refine fn_ok (E := E0) E0_ok Tryz.func47 rfl mixed (by kernel_rfl) (by kernel_rfl) ?_
 conv => whnf
 refine ⟨_, hP, ?_⟩
 conv => whnf
 refine ⟨_, hD, ?_⟩
 conv => whnf
 refine loop_ints (fun i : Nat => gst [(3, .c (nl (L i) (S i))), (4, .c (ints k dv)), (5, .c (.int .i64 i))] []) (fun i => k - i) (fun i => i ≤ k - 1) 0 rfl (Weak.gen [] rfl trivial ⟨.inl ⟨_, _, rfl, rfl, fun _ _ _ _ => rfl⟩, .inl ⟨_, _, rfl, rfl, fun _ _ _ _ => rfl⟩, ⟨_, rfl, rfl⟩, trivial⟩) (Nat.zero_le _) fun i hi => ?_
 have hQ := hQ i
 have hd := hd i
 conv => whnf
 refine ⟨i64 (by omega) (by omega), ?_⟩
 conv => whnf
 refine bcase (fun (h : decide ((i : Int) + 1 < k) = true) => ?_) fun (h : decide ((i : Int) + 1 < k) = false) => ?_
 ·have h := of_decide_eq_true h
  have hQ := hQ (by omega)
  have hd := hd (by omega)
  conv => whnf
  refine ⟨by omega, by omega, ?_⟩
  conv => whnf
  refine ⟨_, hQ, ?_⟩
  conv => whnf
  refine ⟨_, hd, ?_⟩
  conv => whnf
  refine ⟨i64 (by omega) (by omega), ?_⟩
  conv => whnf
  exact ⟨i + 1, by omega, Weak.gen [] rfl trivial ⟨.inl ⟨_, _, rfl, rfl, fun _ _ _ _ => rfl⟩, .inl ⟨_, _, rfl, rfl, fun _ _ _ _ => rfl⟩, ⟨_, rfl, rfl⟩, trivial⟩, by omega⟩
 ·have h := of_decide_eq_false h
  have g : Sub (.c (nl (L i) (S i))) (.c (nl (L (k - 1)) (S (k - 1)))) := by rw [show i = k - 1 by omega]; exact Sub.refl _
  conv => whnf
  exact ⟨rfl, g⟩
end Rf
end Go.Proofs.YtmbejakmeijcbaaGreat
/- Products and quotients of literal lists of the document's integer polynomials. -/
namespace Go.Proofs.YtmbejakmeijcbaaGreat
open Go.RowKit
namespace Z
theorem zlen64 {x : Int} (h : x.natAbs < 18446744073709551616) : zlen x ≤ 2 := zlen_le (Nat.lt_of_lt_of_le h (by decide))
theorem su_abs {f : Nat → Int} {M N : Nat} (hf : ∀ i, (f i).natAbs ≤ M) (h0 : ∀ i, N ≤ i → f i = 0) : ∀ n, (su f n).natAbs ≤ min n N * M
 | 0 => by show (0 : Int).natAbs ≤ _; simp
 | n + 1 => by
  have ih := su_abs hf h0 n
  show (su f n + f n).natAbs ≤ _
  rcases Nat.lt_or_ge n N with c | c
  ·have h1 := Int.natAbs_add_le (su f n) (f n)
   have h2 := hf n
   have h3 : min (n + 1) N = min n N + 1 := by omega
   rw [h3, Nat.succ_mul]
   omega
  ·rw [h0 n c, Int.add_zero]
   have h3 : min (n + 1) N = min n N := by omega
   rw [h3]; exact ih
def smB (l : List Int) : Bool := decide (l.length ≤ 200) && l.all fun x => decide (x.natAbs ≤ 1048576)
abbrev gl (l : List Int) (i : Nat) : Int := l.getD i 0
theorem smB_abs {l : List Int} (h : smB l = true) (i : Nat) : (gl l i).natAbs ≤ 1048576 := by
 unfold smB at h
 simp only [Bool.and_eq_true] at h
 show (l.getD i 0).natAbs ≤ _
 rw [List.getD_eq_getElem?_getD]
 cases hx : l[i]? with
 | none => exact Nat.zero_le _
 | some x => exact of_decide_eq_true (List.all_eq_true.1 h.2 x (List.mem_of_getElem? hx))
theorem smB_len {l : List Int} (h : smB l = true) : l.length ≤ 200 := by
 unfold smB at h
 simp only [Bool.and_eq_true, decide_eq_true_eq] at h
 exact h.1
theorem gl_fin (l : List Int) : Fin l.length (gl l) := fun i hi => by
 show l.getD i 0 = 0
 rw [List.getD_eq_getElem?_getD, List.getElem?_eq_none hi]; rfl
theorem gl_len {l : List Int} (h : smB l = true) (i : Nat) : zlen (gl l i) ≤ 2 := zlen64 (by have := smB_abs h i; omega)
theorem prod_abs {x y : Int} (hx : x.natAbs ≤ 1048576) (hy : y.natAbs ≤ 1048576) : (x * y).natAbs ≤ 1099511627776 := by
 rw [Int.natAbs_mul]
 exact Nat.mul_le_mul hx hy
theorem sum_len {F G : Nat → Int} {N : Nat} (hN : N ≤ 200) (hF : ∀ i, (F i).natAbs ≤ 1048576) (hG : ∀ i, (G i).natAbs ≤ 1048576) (f0 : Fin N F) (k i : Nat) : zlen (su (fun a => F a * G (k - a)) i) ≤ 2 := zlen64 (by
 have h := su_abs (f := fun a => F a * G (k - a)) (M := 1099511627776) (N := N) (fun a => prod_abs (hF a) (hG (k - a))) (fun a ha => by show F a * _ = 0; rw [f0 a ha, Int.zero_mul]) i
 have h2 : min i N * 1099511627776 ≤ 200 * 1099511627776 := Nat.mul_le_mul_right _ (by omega)
 omega)
def eqB (n : Nat) (F G : Nat → Int) : Bool := (List.range n).all fun k => F k == G k
theorem eqB_ok {n : Nat} {F G : Nat → Int} (h : eqB n F G = true) (hF : Fin n F) (hG : Fin n G) : F = G := funext fun k => by
 rcases Nat.lt_or_ge k n with c | c
 ·exact beq_iff_eq.1 (List.all_eq_true.1 h k (List.mem_range.2 c))
 ·rw [hF k c, hG k c]
def topB (l : List Int) : Bool := l.length == 0 || !(gl l (l.length - 1) == 0)
theorem topB_ok {l : List Int} (h : topB l = true) : l.length = 0 ∨ gl l (l.length - 1) ≠ 0 := by
 unfold topB at h
 simp only [Bool.or_eq_true, beq_iff_eq, Bool.not_eq_true', beq_eq_false_iff_ne] at h
 exact h
end Z
namespace Rf
def divB (q b : List Int) (n : Nat) (c : Nat → Int) : Bool := Z.smB q && Z.smB b && Z.topB q && decide (1 ≤ q.length) && decide (1 ≤ b.length) && (Z.gl b (b.length - 1) == 1) && (n == q.length + (b.length - 1)) && Z.eqB n (Z.cf (Z.gl q) (Z.gl b)) c
theorem div_check {q b : List Int} {n : Nat} {c : Nat → Int} (hc : Z.Fin n c) (h : divB q b n c = true) : FnOK Tryz.prog false 81 [.c (nl n c), .c (nl b.length (Z.gl b))] (.t2 (.c (nl q.length (Z.gl q))) (.c (.bool true))) := by
 unfold divB at h
 simp only [Bool.and_eq_true, decide_eq_true_eq, beq_iff_eq] at h
 obtain ⟨⟨⟨⟨⟨⟨⟨h1, h2⟩, h3⟩, h4⟩, h5⟩, h6⟩, h7⟩, h8⟩ := h
 have l1 := Z.smB_len h1
 have l2 := Z.smB_len h2
 have fq := Z.gl_fin q
 have fb := Z.gl_fin b
 obtain ⟨d, hd⟩ : ∃ d, d = b.length - 1 := ⟨_, rfl⟩
 have hb : b.length = d + 1 := by omega
 rw [← hd] at h6 h7
 rw [hb] at fb ⊢
 have aq := Z.smB_abs h1
 have ab := Z.smB_abs h2
 have el : Z.lo q.length (Z.gl q) = Z.gl q := funext fun i => by
  unfold Z.lo
  split
  ·rfl
  ·exact (fq i (by omega)).symm
 have a1 : ∀ k i, (Z.lo k (Z.gl q) i).natAbs ≤ 1048576 := fun k i => by
  unfold Z.lo
  split
  ·exact aq i
  ·exact Nat.zero_le _
 have f1 : ∀ k, Z.Fin q.length (Z.lo k (Z.gl q)) := fun k i hi => by
  unfold Z.lo
  split
  ·exact fq i hi
  ·rfl
 have a2 : ∀ k i, (Z.mo (Z.gl q k) k i).natAbs ≤ 1048576 := fun k i => by
  unfold Z.mo
  split
  ·exact aq k
  ·exact Nat.zero_le _
 have f2 : ∀ k, Z.Fin q.length (Z.mo (Z.gl q k) k) := fun k i hi => by
  unfold Z.mo
  split
  ·rename_i e; rw [← e]; exact fq i hi
  ·rfl
 have hm := divide5_ok (d := d) (t := q.length) (q := Z.gl q) (b := Z.gl b) (by omega) (by omega) ⟨h6, fb⟩ fq (Z.topB_ok h3) (fun i => Nat.le_trans (Z.gl_len h1 i) (by decide)) (fun i => Nat.le_trans (Z.gl_len h2 i) (by decide)) (fun k j => Nat.le_trans (Z.sum_len l1 (a1 k) ab (f1 k) j (j + 1)) (by decide)) (fun k j i => Nat.le_trans (Z.sum_len l1 (a2 k) ab (f2 k) j i) (by decide))
 have e0 : lenR d q.length = n := by rw [h7]; exact if_neg (by omega)
 have fc : Z.Fin n (Z.cf (Z.gl q) (Z.gl b)) := by
  have h := Z.part_fin (k := q.length) (q := Z.gl q) fb
  rw [el] at h
  rw [h7]
  exact h
 rw [el, e0, Z.eqB_ok h8 fc hc] at hm
 exact hm
end Rf
end Go.Proofs.YtmbejakmeijcbaaGreat
/- The law of the cyclotomic polynomials at one order, from runs and checks of literal lists. -/
namespace Go.Proofs.YtmbejakmeijcbaaGreat
open Go.RowKit
namespace Rf
abbrev lg (Q : List (List Int)) (i : Nat) : List Int := Q.getD i []
def powB (n : Nat) (c : List Int) : Bool := (c.length == n + 1) && Z.eqB (n + 1) (Z.xn1 n) (Z.gl c)
theorem pow_check {n : Nat} {c : List Int} (h1 : 1 ≤ n) (hn : n ≤ 1000) (h : powB n c = true) : FnOK Tryz.prog false 80 [.c (.int .i64 n)] (.c (nl c.length (Z.gl c))) := by
 unfold powB at h
 simp only [Bool.and_eq_true, beq_iff_eq] at h
 have e := Z.eqB_ok h.2 (Z.xn1_fin h1) (by rw [← h.1]; exact Z.gl_fin c)
 have hp := power15_ok h1 hn
 rw [e, ← h.1] at hp
 exact hp
def refB (n k : Nat) (Q P : List (List Int)) : Bool := decide (1 ≤ n) && decide (n ≤ 60) && decide (1 ≤ k) && decide (k ≤ 1000) && powB n (lg Q 0) && (List.range (k - 1)).all fun i => divB (lg Q (i + 1)) (lg P i) (lg Q i).length (Z.gl (lg Q i))
theorem ref_check {n : Nat} {dv : List Nat} {Q P : List (List Int)} {l : List Int} (hD : FnOK Tryz.prog false 61 [.c (.int .i64 n)] (.c (ints dv.length fun i => dv.getD i 0))) (hb : refB n dv.length Q P = true) (hl : lg Q (dv.length - 1) = l) (hQ : ∀ i, i + 1 < dv.length → FnOK Tryz.prog false 47 [.c (.int .i64 (dv.getD i 0 : Nat))] (.c (nl (lg P i).length (Z.gl (lg P i))))) : FnOK Tryz.prog false 47 [.c (.int .i64 n)] (.c (nl l.length (Z.gl l))) := by
 unfold refB at hb
 simp only [Bool.and_eq_true, decide_eq_true_eq] at hb
 obtain ⟨⟨⟨⟨⟨h1, h2⟩, h3⟩, h4⟩, h5⟩, h6⟩ := hb
 have h := poly15_ok (L := fun i => (lg Q i).length) (S := fun i => Z.gl (lg Q i)) (m := fun i => (lg P i).length) (P := fun i => Z.gl (lg P i)) (dv := fun i => dv.getD i 0) h4 h3 (pow_check h1 (by omega) h5) hD hQ fun i hi => div_check (Z.gl_fin _) (List.all_eq_true.1 h6 i (List.mem_range.2 (by omega)))
 rw [← hl]
 exact h
end Rf
end Go.Proofs.YtmbejakmeijcbaaGreat
