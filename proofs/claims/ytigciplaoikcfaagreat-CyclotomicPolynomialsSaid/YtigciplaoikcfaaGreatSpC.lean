/- Fractions as abstract values, and package rational in those words. -/
import Derived.Test.YtigciplaoikcfaaGreatSpA
import Derived.Test.YtigciplaoikcfaaGreatRatL
namespace Go.Proofs.YtigciplaoikcfaaGreat
open Go.RowKit
/-- A fraction as its fields stand. -/
structure RawR where
  num : RawZ
  den : RawZ
def RawR.val (q : RawR) : Rat := ratio q.num.val q.den.val
def rr (q : RawR) : List Cell := [.bool q.num.neg, dsC q.num.ds, .bool q.den.neg, dsC q.den.ds]
def ofR (x : Rat) : RawR := ⟨ofZ x.num, ofZ x.den⟩
/-- The fraction x, normalized. -/
abbrev nq (x : Rat) : List Cell := rr (ofR x)
/-- Digits in order, at most L of them. -/
structure RawR.Fit (q : RawR) (L : Nat) : Prop where
  num : Dg.ok q.num.ds
  den : Dg.ok q.den.ds
  numL : q.num.ds.length ≤ L
  denL : q.den.ds.length ≤ L
theorem ofR_val (x : Rat) : (ofR x).val = x := by
  unfold RawR.val ofR; simp only [ofZ_val]; exact ratio_num_den x
/-- How many digits a fraction's parts have at most. -/
def qlen (x : Rat) : Nat := max (zlen x.num) (zlen x.den)
theorem ofR_fit {x : Rat} {L : Nat} (h : qlen x ≤ L) : (ofR x).Fit L := by
  unfold qlen at h
  exact ⟨ofZ_ok _, ofZ_ok _, by rw [ofR, ofZ_len]; omega, by rw [ofR, ofZ_len]; omega⟩
theorem ofZ_eq {a : RawZ} {x : Int} (h : ofZ x = a) : ofZ x = a := h
theorem ofZ_one : ofZ 1 = ⟨false, [1]⟩ := rfl
theorem ofZ_zero : ofZ 0 = ⟨false, []⟩ := rfl
theorem zlen_eq_zero {x : Int} : zlen x = 0 ↔ x = 0 := by
  unfold zlen
  rw [List.length_eq_zero_iff]
  constructor
  · intro h
    have := digs_val x.natAbs
    rw [h] at this
    simp [Dg.val] at this
    omega
  · intro h; subst h; rfl
theorem ofZ_inj {x y : Int} (h : ofZ x = ofZ y) : x = y := by rw [← ofZ_val x, h, ofZ_val]
def SubC (x y : Cell) : Prop := ∀ D w v, CRel D w [] x v → CRel D w [] y v
theorem SubC.refl (x : Cell) : SubC x x := fun _ _ _ h => h
theorem SubC.nil (sz : Nat) (f : Nat → Nat → Cell) : SubC .nil (.row sz 0 f) := fun D w v h => by
  have h : v = .slice none 0 0 := h
  exact ⟨none, 0, h, Nat.le_refl _, fun h => by omega⟩
theorem Sub.cells {l l' : List Cell} (hl : l.length = l'.length) (h : ∀ (i : Nat) x y, l[i]? = some x → l'[i]? = some y → SubC x y) : Sub (.g l) (.g l') := by
  intro D w v hv
  obtain ⟨vs, rfl, h2⟩ := hv
  refine ⟨vs, rfl, CRels.of _ _ (by rw [← hl]; exact h2.length) fun i y v hy hv => ?_⟩
  obtain ⟨x, hx⟩ : ∃ x, l[i]? = some x := ⟨_, List.getElem?_eq_getElem (by rw [hl]; exact (List.getElem?_eq_some_iff.1 hy).1)⟩
  obtain ⟨v', hv', hr⟩ := h2.get i x hx
  rw [hv] at hv'; cases hv'
  exact h i x y hx hy D w _ hr
theorem Sub.bool {a b : Bool} (h : a = b) : Sub (.c (.bool a)) (.c (.bool b)) := by subst h; exact Sub.refl _
set_option maxHeartbeats 1000000 in
theorem one_ok {a : RawZ} : FnOK Tryz.prog true 122 [.g (zr a)] (.c (.bool (decide (a.ds = [1] ∧ a.neg = false)))) := by
  refine fn_ok (E := E1) E1_ok Tryz.func122 rfl mixed (by kernel_rfl) (by kernel_rfl) ?_
  conv => whnf
  refine bcase (fun (h : decide ((a.ds.length : Int) = 1) = true) => ?_) fun (h : decide ((a.ds.length : Int) = 1) = false) => ?_
  · have hl : a.ds.length = 1 := by have h := of_decide_eq_true h; omega
    obtain ⟨x, hx⟩ := List.length_eq_one_iff.1 hl
    conv => whnf
    refine ⟨by omega, by omega, ?_⟩
    conv => whnf
    refine bcase (fun (h2 : decide (((a.ds.getD 0 0 : Nat) : Int) = 1) = true) => ?_) fun (h2 : decide (((a.ds.getD 0 0 : Nat) : Int) = 1) = false) => ?_
    · conv => whnf
      refine ⟨rfl, Sub.bool ?_⟩
      have h2 := of_decide_eq_true h2
      rw [hx] at h2 ⊢
      simp at h2
      have : x = 1 := by omega
      subst this
      cases a.neg <;> rfl
    · conv => whnf
      refine ⟨rfl, Sub.bool (decide_eq_false ?_).symm⟩
      rintro ⟨e, _⟩
      rw [e] at h2; exact absurd h2 (by decide)
  · conv => whnf
    refine ⟨rfl, Sub.bool (decide_eq_false ?_).symm⟩
    rintro ⟨e, _⟩
    rw [e] at h; exact absurd h (by decide)
theorem one_nz {x : Int} : decide ((ofZ x).ds = [1] ∧ (ofZ x).neg = false) = decide (x = 1) := by
  congr 1
  apply propext
  constructor
  · rintro ⟨h1, h2⟩
    refine ofZ_inj (y := 1) ?_
    rw [ofZ_one]
    exact (by rw [← h1, ← h2] : ofZ x = ⟨false, [1]⟩)
  · rintro rfl; exact ⟨rfl, rfl⟩
theorem one_nz_ok (x : Int) : FnOK Tryz.prog true 122 [.g (nz x)] (.c (.bool (decide (x = 1)))) := one_nz ▸ one_ok (a := ofZ x)
theorem zlen_small (x : Int) {a : RawZ} (h : x = a.val) (ha : Dg.ok a.ds) : zlen x ≤ a.ds.length := by
  refine zlen_le ?_
  have := Dg.val_lt ha
  rw [h]; unfold RawZ.val sgn; cases a.neg <;> simpa using this
theorem leaf {x : Rat} {n d : Int} (e : ofR x = ⟨ofZ n, ofZ d⟩) : Sub (.g (rr ⟨ofZ n, ofZ d⟩)) (.g (nq x)) := by
  unfold nq; rw [e]; exact Sub.refl _
theorem leaf0 {x : Rat} (e : x = 0) : Sub (.g [.bool false, .nil, .bool (ofZ 1).neg, dsC (ofZ 1).ds]) (.g (nq x)) := by
  subst e
  refine Sub.cells rfl fun i x y hx hy => ?_
  match i, hx, hy with
  | 0, hx, hy => cases hx; cases hy; exact SubC.refl _
  | 1, hx, hy => cases hx; cases hy; exact SubC.nil _ _
  | 2, hx, hy => cases hx; cases hy; exact SubC.refl _
  | 3, hx, hy => cases hx; cases hy; exact SubC.refl _
  | i + 4, hx, hy => simp at hx
theorem parts_one {n d : Int} (h : d = 1) : ofR (ratio n d) = ⟨ofZ n, ofZ d⟩ := by
  subst h
  rw [ratio_one]; unfold ofR; simp
theorem parts {n d : Int} (hd : 0 < d) : ofR (ratio n d) = ⟨ofZ (n / (Nat.gcd n.natAbs d.natAbs : Nat)), ofZ (d / (Nat.gcd n.natAbs d.natAbs : Nat))⟩ := by
  obtain ⟨k, rfl⟩ := Int.eq_ofNat_of_zero_le (show 0 ≤ d by omega)
  obtain ⟨h1, h2⟩ := ratio_parts (n := n) (d := k) (by omega)
  unfold ofR
  rw [h1, h2]
  simp [Int.gcd]
theorem gcd_ne {n d : Int} (hd : 0 < d) : ((Nat.gcd n.natAbs d.natAbs : Nat) : Int) ≠ 0 := by
  have := Nat.gcd_pos_of_pos_right n.natAbs (show 0 < d.natAbs by omega)
  omega
theorem gcd_le_right {n d : Int} (hd : 0 < d) : ((Nat.gcd n.natAbs d.natAbs : Nat) : Int).natAbs ≤ d.natAbs := by
  rw [Int.natAbs_natCast]
  exact Nat.gcd_le_right _ (by omega)
theorem gcd_dvd1 (n d : Int) : n % (Nat.gcd n.natAbs d.natAbs : Nat) = 0 := Int.emod_eq_zero_of_dvd (Int.ofNat_dvd_left.2 (Nat.gcd_dvd_left _ _))
theorem gcd_dvd2 (n d : Int) : d % (Nat.gcd n.natAbs d.natAbs : Nat) = 0 := Int.emod_eq_zero_of_dvd (Int.ofNat_dvd_left.2 (Nat.gcd_dvd_right _ _))
set_option maxHeartbeats 4000000 in
theorem over_ok {a b : RawZ} (ha : Dg.ok a.ds) (hb : Dg.ok b.ds) (h1 : a.ds.length + 3 ≤ LIM) (h2 : b.ds.length + 3 ≤ LIM) : FnOK Tryz.prog true 114 [.g (zr a), .g (zr b)] (.g (nq (ratio a.val b.val))) := by
  have hza := zlen_small a.val rfl ha
  have hzb := zlen_small b.val rfl hb
  refine fn_ok (E := E1) E1_ok Tryz.func114 rfl mixed (by kernel_rfl) (by kernel_rfl) ?_
  conv => whnf
  refine ⟨_, normal_ok (a := a) ha (by omega), ?_⟩
  conv => whnf
  refine ⟨_, normal_ok (a := b) hb (by omega), ?_⟩
  conv => whnf
  refine bcase (fun h => ?_) fun h => ?_
  · have h : decide ((zlen b.val : Int) = 0) = false := gwf h
    have hb0 : b.val ≠ 0 := fun e => by rw [zlen_eq_zero.2 e] at h; exact absurd h (by decide)
    conv => whnf
    refine bcase (fun (h : decide ((zlen a.val : Int) = 0) = true) => ?_) fun (h : decide ((zlen a.val : Int) = 0) = false) => ?_
    · conv => whnf
      refine ⟨_, of_ok (x := 1) (by omega) (by omega), ?_⟩
      conv => whnf
      refine ⟨rfl, leaf0 ?_⟩
      have := of_decide_eq_true h
      rw [(zlen_eq_zero (x := a.val)).1 (by omega)]; exact ratio_zero_left _
    · conv => whnf
      refine bcase (fun (h : decide (b.val < 0) = true) => ?_) fun (h : decide (b.val < 0) = false) => ?_
      · have hneg := of_decide_eq_true h
        have hpos : 0 < -b.val := by omega
        have hr := (ratio_neg a.val b.val).symm
        have hza := zlen_neg a.val
        have hzb := zlen_neg b.val
        conv => whnf
        refine ⟨_, neg_nz a.val (by omega), ?_⟩
        conv => whnf
        refine ⟨_, neg_nz b.val (by omega), ?_⟩
        conv => whnf
        refine ⟨_, one_nz_ok (-b.val), ?_⟩
        conv => whnf
        refine bcase (fun (h : decide ((-b.val) = 1) = true) => ?_) fun (h : decide ((-b.val) = 1) = false) => ?_
        · conv => whnf
          refine ⟨rfl, leaf ?_⟩
          rw [hr]; exact parts_one (of_decide_eq_true h)
        · have hd1 : (-b.val) ≠ 1 := of_decide_eq_false h
          conv => whnf
          refine ⟨_, gcd_nz (-a.val) (-b.val) (by omega) (by omega), ?_⟩
          conv => whnf
          refine ⟨_, one_nz_ok _, ?_⟩
          conv => whnf
          refine bcase (fun (h : (!decide (((Nat.gcd (-a.val).natAbs (-b.val).natAbs : Nat) : Int) = 1)) = true) => ?_) fun (h : (!decide (((Nat.gcd (-a.val).natAbs (-b.val).natAbs : Nat) : Int) = 1)) = false) => ?_
          · conv => whnf
            refine ⟨_, exact_nz (-a.val) (Nat.gcd (-a.val).natAbs (-b.val).natAbs : Nat) (by omega) (by have := zlen_natAbs_le (x := (Nat.gcd (-a.val).natAbs (-b.val).natAbs : Nat)) (y := -b.val) (gcd_le_right hpos); omega) (gcd_ne hpos) (gcd_dvd1 _ _), ?_⟩
            conv => whnf
            refine ⟨_, exact_nz (-b.val) (Nat.gcd (-a.val).natAbs (-b.val).natAbs : Nat) (by omega) (by have := zlen_natAbs_le (x := (Nat.gcd (-a.val).natAbs (-b.val).natAbs : Nat)) (y := -b.val) (gcd_le_right hpos); omega) (gcd_ne hpos) (gcd_dvd2 _ _), ?_⟩
            conv => whnf
            refine ⟨rfl, leaf ?_⟩
            rw [hr]; exact parts hpos
          · have h : ((Nat.gcd (-a.val).natAbs (-b.val).natAbs : Nat) : Int) = 1 := by simpa using h
            conv => whnf
            refine ⟨rfl, leaf ?_⟩
            rw [hr, parts hpos, h]; simp
      · have hneg := of_decide_eq_false h
        have hpos : 0 < b.val := by omega
        have hr : ratio a.val b.val = ratio a.val b.val := rfl
        conv => whnf
        refine ⟨_, one_nz_ok (b.val), ?_⟩
        conv => whnf
        refine bcase (fun (h : decide ((b.val) = 1) = true) => ?_) fun (h : decide ((b.val) = 1) = false) => ?_
        · conv => whnf
          refine ⟨rfl, leaf ?_⟩
          rw [hr]; exact parts_one (of_decide_eq_true h)
        · have hd1 : (b.val) ≠ 1 := of_decide_eq_false h
          conv => whnf
          refine ⟨_, gcd_nz (a.val) (b.val) (by omega) (by omega), ?_⟩
          conv => whnf
          refine ⟨_, one_nz_ok _, ?_⟩
          conv => whnf
          refine bcase (fun (h : (!decide (((Nat.gcd (a.val).natAbs (b.val).natAbs : Nat) : Int) = 1)) = true) => ?_) fun (h : (!decide (((Nat.gcd (a.val).natAbs (b.val).natAbs : Nat) : Int) = 1)) = false) => ?_
          · conv => whnf
            refine ⟨_, exact_nz (a.val) (Nat.gcd (a.val).natAbs (b.val).natAbs : Nat) (by omega) (by have := zlen_natAbs_le (x := (Nat.gcd (a.val).natAbs (b.val).natAbs : Nat)) (y := b.val) (gcd_le_right hpos); omega) (gcd_ne hpos) (gcd_dvd1 _ _), ?_⟩
            conv => whnf
            refine ⟨_, exact_nz (b.val) (Nat.gcd (a.val).natAbs (b.val).natAbs : Nat) (by omega) (by have := zlen_natAbs_le (x := (Nat.gcd (a.val).natAbs (b.val).natAbs : Nat)) (y := b.val) (gcd_le_right hpos); omega) (gcd_ne hpos) (gcd_dvd2 _ _), ?_⟩
            conv => whnf
            refine ⟨rfl, leaf ?_⟩
            rw [hr]; exact parts hpos
          · have h : ((Nat.gcd (a.val).natAbs (b.val).natAbs : Nat) : Int) = 1 := by simpa using h
            conv => whnf
            refine ⟨rfl, leaf ?_⟩
            rw [hr, parts hpos, h]; simp
  · have h : decide ((zlen b.val : Int) = 0) = true := gwf' h
    conv => whnf
    refine ⟨_, of_ok (x := 1) (by omega) (by omega), ?_⟩
    conv => whnf
    refine ⟨rfl, leaf0 ?_⟩
    have := of_decide_eq_true h
    rw [(zlen_eq_zero (x := b.val)).1 (by omega)]; exact ratio_zero_right _
end Go.Proofs.YtigciplaoikcfaaGreat
/- Package rational in abstract words: the operations. -/
namespace Go.Proofs.YtigciplaoikcfaaGreat
open Go.RowKit
theorem over_eq {a b : RawZ} {x : Rat} (hx : ratio a.val b.val = x) (ha : Dg.ok a.ds) (hb : Dg.ok b.ds) (h1 : a.ds.length + 3 ≤ LIM) (h2 : b.ds.length + 3 ≤ LIM) : FnOK Tryz.prog true 114 [.g (zr a), .g (zr b)] (.g (nq x)) := by
  subst hx; exact over_ok ha hb h1 h2
theorem qlen_ratio {n d : Int} {L : Nat} (hn : zlen n ≤ L) (hd : zlen d ≤ L) (h1 : 1 ≤ L) : qlen (ratio n d) ≤ L := by
  have z1 : zlen 1 = 1 := rfl
  have key : ∀ (n d : Int), 0 < d → zlen n ≤ L → zlen d ≤ L → qlen (ratio n d) ≤ L := by
    intro n d h0 hn hd
    obtain ⟨k, rfl⟩ := Int.eq_ofNat_of_zero_le (show 0 ≤ d by omega)
    obtain ⟨g1, g2⟩ := ratio_small (n := n) (d := k) (by omega)
    have e1 := zlen_natAbs_le g1
    have e2 := zlen_natAbs_le (x := ((ratio n k).den : Int)) (y := (k : Int)) (by omega)
    unfold qlen; omega
  rcases Int.lt_trichotomy d 0 with h | h | h
  · rw [← ratio_neg]
    exact key _ _ (by omega) (by rw [zlen_neg]; exact hn) (by rw [zlen_neg]; exact hd)
  · subst h
    rw [ratio_zero_right]
    show max (zlen 0) (zlen 1) ≤ L
    rw [z1, zlen_eq_zero.2 rfl]; omega
  · exact key _ _ h hn hd
theorem RawR.Fit.zn {q : RawR} {L : Nat} (h : q.Fit L) : zlen q.num.val ≤ L := Nat.le_trans (zlen_small _ rfl h.num) h.numL
theorem RawR.Fit.zd {q : RawR} {L : Nat} (h : q.Fit L) : zlen q.den.val ≤ L := Nat.le_trans (zlen_small _ rfl h.den) h.denL
theorem RawR.Fit.qlen {q : RawR} {L : Nat} (h : q.Fit L) (h1 : 1 ≤ L) : qlen q.val ≤ L := qlen_ratio h.zn h.zd h1
theorem RawR.Fit.mono {q : RawR} {L L' : Nat} (h : q.Fit L) (h1 : L ≤ L') : q.Fit L' := ⟨h.num, h.den, Nat.le_trans h.numL h1, Nat.le_trans h.denL h1⟩
set_option maxHeartbeats 2000000 in
theorem qnormal_ok {q : RawR} {L : Nat} (h : q.Fit L) (hL : L + 3 ≤ LIM) : FnOK Tryz.prog true 74 [.g (rr q)] (.g (nq q.val)) := by
  obtain ⟨h1, h2, h3, h4⟩ := h
  refine fn_ok (E := E1) E1_ok Tryz.func74 rfl mixed (by kernel_rfl) (by kernel_rfl) ?_
  conv => whnf
  refine ⟨_, over_ok (a := q.num) (b := q.den) h1 h2 (by omega) (by omega), ?_⟩
  conv => whnf
  exact ⟨rfl, Sub.refl _⟩
set_option maxHeartbeats 2000000 in
theorem qof_ok {n : Int} (h0 : -9223372036854775808 ≤ n) (h1 : n ≤ 9223372036854775807) : FnOK Tryz.prog true 66 [.c (.int .i64 n)] (.g (nq n)) := by
  refine fn_ok (E := E1) E1_ok Tryz.func66 rfl mixed (by kernel_rfl) (by kernel_rfl) ?_
  conv => whnf
  refine ⟨_, of_ok (x := n) h0 h1, ?_⟩
  conv => whnf
  refine ⟨_, of_ok (x := 1) (by omega) (by omega), ?_⟩
  conv => whnf
  refine ⟨rfl, leaf (x := (n : Rat)) (n := n) (d := 1) ?_⟩
  unfold ofR; simp
theorem Sub.int {k : IntKind} {a b : Int} (h : a = b) : Sub (.c (.int k a)) (.c (.int k b)) := by subst h; exact Sub.refl _
theorem sign_range (a b : Int) : inR .i64 (a.sign * b.sign) := by
  have h : ∀ a : Int, a.sign = -1 ∨ a.sign = 0 ∨ a.sign = 1 := fun a => by
    rcases Int.lt_trichotomy a 0 with h | h | h
    · exact .inl (Int.sign_eq_neg_one_of_neg h)
    · subst h; exact .inr (.inl rfl)
    · exact .inr (.inr (Int.sign_eq_one_of_pos h))
  rcases h a with e | e | e <;> rcases h b with e' | e' | e' <;> rw [e, e'] <;> exact ⟨by omega, by omega⟩
set_option maxHeartbeats 2000000 in
theorem qsign_ok {q : RawR} {L : Nat} (h : q.Fit L) (hL : L + 3 ≤ LIM) : FnOK Tryz.prog true 116 [.g (rr q)] (.c (.int .i64 q.val.num.sign)) := by
  obtain ⟨h1, h2, h3, h4⟩ := h
  refine fn_ok (E := E1) E1_ok Tryz.func116 rfl mixed (by kernel_rfl) (by kernel_rfl) ?_
  conv => whnf
  refine ⟨_, sign_ok (a := q.num) h1 (by omega), ?_⟩
  conv => whnf
  refine ⟨_, sign_ok (a := q.den) h2 (by omega), ?_⟩
  conv => whnf
  refine ⟨sign_range _ _, ?_⟩
  conv => whnf
  refine ⟨rfl, Sub.int (ratio_sign _ _).symm⟩
set_option maxHeartbeats 2000000 in
theorem qneg_ok {q : RawR} {L : Nat} (h : q.Fit L) (hL : L + 3 ≤ LIM) : FnOK Tryz.prog true 70 [.g (rr q)] (.g (nq (-q.val))) := by
  have hz := h.zn
  obtain ⟨h1, h2, h3, h4⟩ := h
  refine fn_ok (E := E1) E1_ok Tryz.func70 rfl mixed (by kernel_rfl) (by kernel_rfl) ?_
  conv => whnf
  refine ⟨_, neg_ok (a := q.num) h1 (by omega), ?_⟩
  conv => whnf
  refine ⟨_, over_eq (a := ofZ (-q.num.val)) (b := q.den) (x := -q.val) (by rw [ofZ_val]; exact ratio_neg_left _ _) (ofZ_ok _) h2 (by rw [ofZ_len, zlen_neg]; omega) (by omega), ?_⟩
  conv => whnf
  exact ⟨rfl, Sub.refl _⟩
set_option maxHeartbeats 2000000 in
theorem qmul_ok {q p : RawR} {L L' : Nat} (h : q.Fit L) (h' : p.Fit L') (hL : L + L' + 3 ≤ LIM) : FnOK Tryz.prog true 67 [.g (rr q), .g (rr p)] (.g (nq (q.val * p.val))) := by
  have z1 := h.zn
  have z2 := h.zd
  have z3 := h'.zn
  have z4 := h'.zd
  have y1 := zlen_mul q.num.val p.num.val
  have y2 := zlen_mul q.den.val p.den.val
  obtain ⟨h1, h2, h3, h4⟩ := h
  obtain ⟨g1, g2, g3, g4⟩ := h'
  refine fn_ok (E := E1) E1_ok Tryz.func67 rfl mixed (by kernel_rfl) (by kernel_rfl) ?_
  conv => whnf
  refine ⟨_, mul_ok (a := q.num) (b := p.num) h1 g1 (by omega), ?_⟩
  conv => whnf
  refine ⟨_, mul_ok (a := q.den) (b := p.den) h2 g2 (by omega), ?_⟩
  conv => whnf
  refine ⟨_, over_eq (a := ofZ (q.num.val * p.num.val)) (b := ofZ (q.den.val * p.den.val)) (x := q.val * p.val) (by rw [ofZ_val, ofZ_val]; exact (ratio_mul _ _ _ _).symm) (ofZ_ok _) (ofZ_ok _) (by rw [ofZ_len]; omega) (by rw [ofZ_len]; omega), ?_⟩
  conv => whnf
  exact ⟨rfl, Sub.refl _⟩
theorem leaf1 {x : Rat} {n : Int} (e : x = n) : Sub (.g (rr ⟨ofZ n, ofZ 1⟩)) (.g (nq x)) := by
  subst e
  exact leaf (by unfold ofR; simp)
theorem RawZ.one_val {a : RawZ} (h : a.ds = [1] ∧ a.neg = false) : a.val = 1 := by unfold RawZ.val; rw [h.1, h.2]; rfl
set_option maxHeartbeats 4000000 in
theorem qadd_ok {q p : RawR} {L L' : Nat} (h : q.Fit L) (h' : p.Fit L') (hL : L + L' + 4 ≤ LIM) : FnOK Tryz.prog true 84 [.g (rr q), .g (rr p)] (.g (nq (q.val + p.val))) := by
  have z1 := h.zn
  have z2 := h.zd
  have z3 := h'.zn
  have z4 := h'.zd
  have y1 := zlen_mul q.num.val p.den.val
  have y2 := zlen_mul p.num.val q.den.val
  have y3 := zlen_mul q.den.val p.den.val
  have y4 := zlen_add (q.num.val * p.den.val) (p.num.val * q.den.val)
  have k1 := h
  have k2 := h'
  obtain ⟨h1, h2, h3, h4⟩ := h
  obtain ⟨g1, g2, g3, g4⟩ := h'
  refine fn_ok (E := E1) E1_ok Tryz.func84 rfl mixed (by kernel_rfl) (by kernel_rfl) ?_
  conv => whnf
  refine ⟨_, sign_ok (a := q.den) h2 (by omega), ?_⟩
  conv => whnf
  refine bcase (fun (h : decide (q.den.val.sign = 0) = true) => ?_) fun (h : decide (q.den.val.sign = 0) = false) => ?_
  · conv => whnf
    refine ⟨_, qnormal_ok (q := p) k2 (by omega), ?_⟩
    conv => whnf
    refine ⟨rfl, ?_⟩
    rw [show q.val = 0 by unfold RawR.val; rw [Int.sign_eq_zero_iff_zero.1 (of_decide_eq_true h), ratio_zero_right], Rat.zero_add]
    exact Sub.refl _
  have d1 : q.den.val ≠ 0 := fun e => of_decide_eq_false h (by rw [e]; rfl)
  conv => whnf
  refine ⟨_, sign_ok (a := p.den) g2 (by omega), ?_⟩
  conv => whnf
  refine bcase (fun (h : decide (p.den.val.sign = 0) = true) => ?_) fun (h : decide (p.den.val.sign = 0) = false) => ?_
  · conv => whnf
    refine ⟨_, qnormal_ok (q := q) k1 (by omega), ?_⟩
    conv => whnf
    refine ⟨rfl, ?_⟩
    rw [show p.val = 0 by unfold RawR.val; rw [Int.sign_eq_zero_iff_zero.1 (of_decide_eq_true h), ratio_zero_right], Rat.add_zero]
    exact Sub.refl _
  have d2 : p.den.val ≠ 0 := fun e => of_decide_eq_false h (by rw [e]; rfl)
  have gen : q.val + p.val = ratio (q.num.val * p.den.val + p.num.val * q.den.val) (q.den.val * p.den.val) := ratio_add d1 d2
  conv => whnf
  refine ⟨_, one_ok (a := q.den), ?_⟩
  conv => whnf
  refine bcase (fun (hq : decide (q.den.ds = [1] ∧ q.den.neg = false) = true) => ?_) fun (hq : decide (q.den.ds = [1] ∧ q.den.neg = false) = false) => ?_
  · have hq := of_decide_eq_true hq
    conv => whnf
    refine ⟨_, one_ok (a := p.den), ?_⟩
    conv => whnf
    refine bcase (fun (hp : decide (p.den.ds = [1] ∧ p.den.neg = false) = true) => ?_) fun (hp : decide (p.den.ds = [1] ∧ p.den.neg = false) = false) => ?_
    · have hp := of_decide_eq_true hp
      conv => whnf
      refine ⟨_, add_ok (a := q.num) (b := p.num) h1 g1 (by omega) (by omega), ?_⟩
      conv => whnf
      refine ⟨_, of_ok (x := 1) (by omega) (by omega), ?_⟩
      conv => whnf
      refine ⟨rfl, leaf1 (n := q.num.val + p.num.val) ?_⟩
      rw [gen, RawZ.one_val hq, RawZ.one_val hp, Int.mul_one, Int.mul_one, Int.mul_one, ratio_one]
    · conv => whnf
      refine ⟨_, mul_ok (a := q.num) (b := p.den) h1 g2 (by omega), ?_⟩
      conv => whnf
      refine ⟨_, mul_ok (a := p.num) (b := q.den) g1 h2 (by omega), ?_⟩
      conv => whnf
      refine ⟨_, add_nz (q.num.val * p.den.val) (p.num.val * q.den.val) (by omega) (by omega), ?_⟩
      conv => whnf
      refine ⟨_, mul_ok (a := q.den) (b := p.den) h2 g2 (by omega), ?_⟩
      conv => whnf
      refine ⟨_, over_eq (a := ofZ (q.num.val * p.den.val + p.num.val * q.den.val)) (b := ofZ (q.den.val * p.den.val)) (x := q.val + p.val) (by rw [ofZ_val, ofZ_val]; exact gen.symm) (ofZ_ok _) (ofZ_ok _) (by rw [ofZ_len]; omega) (by rw [ofZ_len]; omega), ?_⟩
      conv => whnf
      exact ⟨rfl, Sub.refl _⟩
  · conv => whnf
    refine ⟨_, mul_ok (a := q.num) (b := p.den) h1 g2 (by omega), ?_⟩
    conv => whnf
    refine ⟨_, mul_ok (a := p.num) (b := q.den) g1 h2 (by omega), ?_⟩
    conv => whnf
    refine ⟨_, add_nz (q.num.val * p.den.val) (p.num.val * q.den.val) (by omega) (by omega), ?_⟩
    conv => whnf
    refine ⟨_, mul_ok (a := q.den) (b := p.den) h2 g2 (by omega), ?_⟩
    conv => whnf
    refine ⟨_, over_eq (a := ofZ (q.num.val * p.den.val + p.num.val * q.den.val)) (b := ofZ (q.den.val * p.den.val)) (x := q.val + p.val) (by rw [ofZ_val, ofZ_val]; exact gen.symm) (ofZ_ok _) (ofZ_ok _) (by rw [ofZ_len]; omega) (by rw [ofZ_len]; omega), ?_⟩
    conv => whnf
    exact ⟨rfl, Sub.refl _⟩
theorem qlen_neg (x : Rat) : qlen (-x) = qlen x := by unfold qlen; simp [zlen_neg]
set_option maxHeartbeats 4000000 in
theorem qsub_ok {q p : RawR} {L L' : Nat} (h : q.Fit L) (h' : p.Fit L') (h0 : 1 ≤ L') (hL : L + L' + 4 ≤ LIM) : FnOK Tryz.prog true 111 [.g (rr q), .g (rr p)] (.g (nq (q.val - p.val))) := by
  have hn := qlen_neg p.val
  have hq := h'.qlen h0
  refine fn_ok (E := E1) E1_ok Tryz.func111 rfl mixed (by kernel_rfl) (by kernel_rfl) ?_
  conv => whnf
  refine ⟨_, qneg_ok (q := p) h' (by omega), ?_⟩
  conv => whnf
  refine ⟨_, qadd_ok (q := q) (p := ofR (-p.val)) h (ofR_fit (L := L') (by omega)) hL, ?_⟩
  conv => whnf
  refine ⟨rfl, ?_⟩
  rw [ofR_val, ← Rat.sub_eq_add_neg]
  exact Sub.refl _
set_option maxHeartbeats 4000000 in
theorem qquo_ok {q p : RawR} {L L' : Nat} (h : q.Fit L) (h' : p.Fit L') (hL : L + L' + 4 ≤ LIM) (hp : p.val ≠ 0) : FnOK Tryz.prog true 69 [.g (rr q), .g (rr p)] (.t2 (.g (nq (q.val / p.val))) (.c (.int .i64 0))) := by
  have z1 := h.zn
  have z2 := h.zd
  have z3 := h'.zn
  have z4 := h'.zd
  have y1 := zlen_mul q.num.val p.den.val
  have y2 := zlen_mul q.den.val p.num.val
  have k2 := h'
  obtain ⟨h1, h2, h3, h4⟩ := h
  obtain ⟨g1, g2, g3, g4⟩ := h'
  refine fn_ok (E := E1) E1_ok Tryz.func69 rfl mixed (by kernel_rfl) (by kernel_rfl) ?_
  conv => whnf
  refine ⟨_, qsign_ok (q := p) k2 (by omega), ?_⟩
  conv => whnf
  refine bcase (fun (h : decide (p.val.num.sign = 0) = true) => ?_) fun h => ?_
  · exact absurd ((rat_sign_zero _).1 (of_decide_eq_true h)) hp
  conv => whnf
  refine ⟨_, mul_ok (a := q.num) (b := p.den) h1 g2 (by omega), ?_⟩
  conv => whnf
  refine ⟨_, mul_ok (a := q.den) (b := p.num) h2 g1 (by omega), ?_⟩
  conv => whnf
  refine ⟨_, over_eq (a := ofZ (q.num.val * p.den.val)) (b := ofZ (q.den.val * p.num.val)) (x := q.val / p.val) (by rw [ofZ_val, ofZ_val]; exact (ratio_div _ _ _ _).symm) (ofZ_ok _) (ofZ_ok _) (by rw [ofZ_len]; omega) (by rw [ofZ_len]; omega), ?_⟩
  conv => whnf
  exact ⟨rfl, Sub.refl _⟩
end Go.Proofs.YtigciplaoikcfaaGreat
