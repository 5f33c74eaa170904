/- The document's insert, Divide; trial division: the walk. -/
import Derived.Test.YtlhdliafjconmaaGreatUf14
namespace Go.Proofs.YtlhdliafjconmaaGreat
open Go.RowKit
section
variable {p : Int} [hp : Prm p]
theorem rdiv_P (hm : Fp.md p) {a b q r : Pol (Zp p)} (ha : a.len ≤ 4096) (hb : b.len ≤ 4096) (h : a = q * b + r) (hr : r.len < b.len) : FnOK Tryz.prog false 41 [.c (.int .i64 p), pl a, pl b] (.t2 (pl q) (pl r)) := by
  obtain ⟨e1, e2⟩ := div_of hm ha hb h hr
  rw [show (V.t2 (pl q) (pl r)) = .t2 (Fp.cl (Fp.quoL p (ofP a) (ofP b))) (Fp.cl (Fp.rstL p (ofP a) (ofP b))) by rw [e1, e2]]
  exact Fp.refDivide_L hm (ofP_NL a ha) (ofP_NL b hb) (by show 0 < b.len; omega)
set_option maxHeartbeats 8000000 in
theorem insert_ok {l : List (Pol (Zp p) × Nat)} {f : Pol (Zp p)} (hl : l.length ≤ 4096) (hf : f.len ≤ 4096) (hc : ∀ c ∈ l, c.1.len ≤ 4096) (h : ∀ c ∈ l, cmpP c.1 f < 0) : FnOK Tryz.prog false 43 [.c (.row 2 l.length (fcs l)), pl f] (.c (.row 2 (l ++ [(f, 1)]).length (fcs (l ++ [(f, 1)])))) := by
  have hmem : ∀ i, i < l.length → l.getD i (0, 0) ∈ l := fun i hi => by
    rw [List.getD_eq_getElem?_getD, List.getElem?_eq_getElem hi]
    exact List.getElem_mem hi
  have ks : ∀ i, i < l.length → FnOK Tryz.prog false 38 [pl (l.getD i (0, 0)).1, pl f] (.c (.bool false)) := fun i hi => sameP_no (hc _ (hmem i hi)) hf fun e => by
    have := h _ (hmem i hi)
    rw [e] at this
    exact cmp_irr this
  have kb : ∀ i, i < l.length → FnOK Tryz.prog false 36 [pl f, pl (l.getD i (0, 0)).1] (.c (.bool false)) := fun i hi => by
    have k := before_ok hf (hc _ (hmem i hi))
    rwa [decide_eq_false (cmp_asym (h _ (hmem i hi)))] at k
  have hll : (l ++ [(f, 1)]).length = l.length + 1 := by rw [List.length_append]; rfl
  refine fn_ok (E := E0) E0_ok Tryz.func43 rfl mixed (by kernel_rfl) (by kernel_rfl) ?_
  conv => whnf
  refine loop_ints (fun i : Nat => gst [(0, .c (.row 2 l.length (fcs l))), (1, pl f), (5, .c (.gs 0 0)), (6, .c (.bool false)), (7, .c (.int .i64 i))] [fcB (l.take i)]) (fun i => l.length - i) (fun i => i ≤ l.length) 0 rfl ?_ (Nat.zero_le _) fun i hi => ?_
  · exact Weak.gen [none] rfl ⟨rfl, trivial⟩ ⟨.inl ⟨_, _, rfl, rfl, fun _ _ _ _ => rfl⟩, .inl ⟨_, _, rfl, rfl, fun _ _ _ _ => rfl⟩, rfl, ⟨_, rfl, rfl⟩, ⟨_, rfl, rfl⟩, trivial⟩
  have ks := ks i
  have kb := kb i
  have htk : (l.take i).length = i := by rw [List.length_take]; omega
  rcases Nat.lt_or_ge i l.length with c | c
  · have ks := ks c
    have kb := kb c
    have e1 := take_next l (0, 0) c
    have htk2 : (l.take (i + 1)).length = (l.take i).length + 1 := by rw [e1, List.length_append]; rfl
    conv => whnf
    refine bpos (show decide ((i : Int) < (l.length : Int)) = true from decide_eq_true (by omega)) ?_
    conv => whnf
    refine ⟨by omega, by show (i : Int) < (l.length : Int); omega, ?_⟩
    conv => whnf
    refine ⟨_, ks, ?_⟩
    conv => whnf
    refine ⟨by omega, by show (i : Int) < (l.length : Int); omega, ?_⟩
    conv => whnf
    refine ⟨_, kb, ?_⟩
    conv => whnf
    refine ⟨by omega, by show (i : Int) < (l.length : Int); omega, ?_⟩
    conv => whnf
    refine ⟨by show (l.take i).length + 1 ≤ 16777216; omega, fun x y hx hy => ?_, ?_⟩
    · have hx : x < 1 := hx
      have hy : y < 2 := hy
      match x, y, hx, hy with
      | 0, 0, _, _ => exact ⟨rfl, fun h => rfl⟩
      | 0, 1, _, _ => exact ⟨rfl, fun h => rfl⟩
    conv => whnf
    refine ⟨Fp.i64 (by omega) (by omega), ?_⟩
    conv => whnf
    exact ⟨i + 1, by omega, Weak.gen [some 0] rfl ⟨⟨_, rfl, rfl, rfl, htk2.symm, rfl, fun k y hk hy => regE (app_fcs1 (l.take i) (a := (l.getD i (0, 0)).1) (v := (l.getD i (0, 0)).2) rfl e1 (Nat.lt_of_lt_of_eq hk htk2) hy) (fcs_clos _ hy)⟩, trivial⟩ ⟨.inl ⟨_, _, rfl, rfl, fun _ _ _ _ => rfl⟩, .inl ⟨_, _, rfl, rfl, fun _ _ _ _ => rfl⟩, ⟨_, rfl, rfl, rfl⟩, ⟨_, rfl, rfl⟩, ⟨_, rfl, rfl⟩, trivial⟩, by omega⟩
  · obtain rfl : i = l.length := by omega
    have e1 : l.take l.length = l := List.take_length
    rw [e1]
    conv => whnf
    refine bneg (show decide ((l.length : Int) < (l.length : Int)) = false from decide_eq_false (by omega)) ?_
    conv => whnf
    refine ⟨by show l.length + 1 ≤ 16777216; omega, fun x y hx hy => ?_, ?_⟩
    · have hx : x < 1 := hx
      have hy : y < 2 := hy
      match x, y, hx, hy with
      | 0, 0, _, _ => exact ⟨rfl, fun h => rfl⟩
      | 0, 1, _, _ => exact ⟨rfl, fun h => rfl⟩
    conv => whnf
    refine ⟨fun k y hk hy => (congrArg Cell.clos (app_fcs1 l (l' := l ++ [(f, 1)]) (a := f) (v := 1) (z := 1) rfl rfl hk hy)).trans (fcs_clos _ hy), ?_⟩
    conv => whnf
    exact ⟨rfl, subRowG hll.symm fun k y hk hy => app_fcs1 l (l' := l ++ [(f, 1)]) (a := f) (v := 1) (z := 1) rfl rfl (Nat.lt_of_lt_of_eq hk hll) hy⟩
end
end Go.Proofs.YtlhdliafjconmaaGreat
/- The document's trial division: the walk. -/
namespace Go.Proofs.YtlhdliafjconmaaGreat
open Go.RowKit
section
variable {p : Int} [hp : Prm p]
/-- How often g divides. -/
theorem dvk_ex {g a : Pol (Zp p)} (h2 : 2 ≤ g.len) (h0 : a ≠ 0) : ∃ K, K ≤ a.len ∧ ¬ Pol.Dvs g (dvk g a K) ∧ ∀ i, i < K → Pol.Dvs g (dvk g a i) := by
  have hg : g ≠ 0 := Pol.ne_of_len (by omega)
  have hex : ∃ K, K ≤ a.len ∧ ¬ Pol.Dvs g (dvk g a K) := Classical.byContradiction fun hn => by
    have hall : ∀ i, i < a.len → Pol.Dvs g (dvk g a i) := fun i hi => Classical.byContradiction fun e => hn ⟨i, by omega, e⟩
    have e := dvk_eq hg hall
    have hb : dvk g a a.len ≠ 0 := fun e1 => h0 (by rw [e, e1, Crg.mul_zero])
    have l1 := Pol.len_mul (pw_ne_zero hg a.len) hb
    rw [← e, (len_pw_eq hg a.len).1] at l1
    have l2 := Pol.len_pos hb
    have l3 : a.len ≤ a.len * (g.len - 1) := Nat.le_mul_of_pos_right _ (by omega)
    omega
  obtain ⟨K, ⟨k1, k2⟩, k3⟩ := ex_least hex
  exact ⟨K, k1, k2, fun i hi => Classical.byContradiction fun e => k3 i hi ⟨by omega, e⟩⟩
theorem dvk_len {g a : Pol (Zp p)} (hg : g ≠ 0) (h0 : a ≠ 0) {k : Nat} (h : ∀ i, i < k → Pol.Dvs g (dvk g a i)) : (dvk g a k).len ≤ a.len :=
  Pol.Dvs.len (show Pol.Dvs (dvk g a k) a from ⟨Crg.pw g k, by rw [Crg.mul_comm]; exact dvk_eq hg h⟩) h0
/-- The polynomial of a turn, or none. -/
noncomputable def gV (n j : Nat) : V := if j < p.toNat ^ n then pl (mnp n j : Pol (Zp p)) else .c .nil
theorem regV_if {q : Nat} {bl : List Blk} {ks : List (Option Nat)} {v : V} {n j : Nat} (h : j < p.toNat ^ n) (k : regV q bl ks v (pl (mnp n j : Pol (Zp p)))) : regV q bl ks v (gV (p := p) n j) := by
  unfold gV
  rw [if_pos h]
  exact k
theorem regV_el {q : Nat} {bl : List Blk} {ks : List (Option Nat)} {v : V} {n j : Nat} (h : ¬ j < p.toNat ^ n) (k : regV q bl ks v (.c .nil)) : regV q bl ks v (gV (p := p) n j) := by
  unfold gV
  rw [if_neg h]
  exact k
set_option maxHeartbeats 32000000 in
theorem rfac_ok (hm : Fp.md p) {m : Nat} {x : Nat → Int} {F : Pol (Zp p)} {L : List (Pol (Zp p) × Nat)} (hmn : m ≤ 4096) (eF : Fp.nfL p (m, x) = ofP F) (f0 : F ≠ 0) (lF : F.len ≤ 65) (hL : FacS F L) (hLn : L.length ≤ 64) : FnOK Tryz.prog false 12 [.c (.int .i64 p), .c (il m x)] (.t2 (.c (.int .i64 F.lead.v)) (.c (.row 2 L.length (fcs L)))) := by
  have hm1 := hm.1
  have hm2 := hm.2.1
  have hq2 := two_le (p := p)
  obtain ⟨A, e1, e2, e3, e4, e5⟩ := mo_of hm f0 (by omega)
  have A0 : A ≠ 0 := Pol.ne_of_len (by have := Pol.len_pos f0; omega)
  have hA := hL.f.assoc A0 f0 e4 e3
  have hs := hL.s
  have hp0 := Pol.len_pos f0
  have kN : FnOK Tryz.prog false 35 [.c (.int .i64 p), .c (il m x)] (pl F) := by
    have := Fp.refNormal_ok (p := p) (n := m) (a := x) (by omega) hm2 (by omega)
    have e : (Fp.tl (Fp.nf p m x) m, Fp.nf p m x) = ofP F := eF
    show FnOK _ _ _ _ (Fp.cl (ofP F))
    rw [← e]
    exact this
  have kM : FnOK Tryz.prog false 39 [.c (.int .i64 p), pl F] (pl A) := by
    have := Fp.refMonic_ok hm (ofP_NL F (by omega)).n4 (ofP_NL F (by omega)).self (ofP_NL F (by omega)).t
    show FnOK _ _ _ _ (Fp.cl (ofP A))
    rw [← e1]
    exact this
  have hld : (ofP F).2 (((ofP F).1 : Int) - 1).toNat = F.lead.v := by
    have hFl : (ofP F).1 = F.len := rfl
    rw [show (((ofP F).1 : Int) - 1).toNat = F.len - 1 by omega]
    rfl
  have hFl : (ofP F).1 = F.len := rfl
  have kf := fun n (hn : n ≤ 64) => first_ok (p := p) (n := n) hn
  refine fn_ok (E := E0) E0_ok Tryz.func12 rfl mixed (by kernel_rfl) (by kernel_rfl) ?_
  conv => whnf
  refine .inr ?_
  conv => whnf
  refine ⟨_, kN, ?_⟩
  conv => whnf
  refine ⟨Fp.i64 (by omega) (by omega), ?_⟩
  conv => whnf
  refine ⟨by omega, by show ((ofP F).1 : Int) - 1 < ((ofP F).1 : Int); omega, ?_⟩
  conv => whnf
  refine ⟨_, kM, ?_⟩
  conv => whnf
  refine loop_ints (fun ((n, t, a) : Nat × Nat × Pol (Zp p)) => gst [(0, .c (.int .i64 p)), (6, pl a), (7, .c (.int .i64 F.lead.v)), (8, .c (.gs 0 0)), (9, .c (.int .i64 n))] [fcB (L.take t)]) (fun y => 200 - y.1) (fun y => 1 ≤ y.1 ∧ y.1 ≤ 100 ∧ y.2.2.len ≤ 65 ∧ (TdI L (mnp y.1 0) y.2.1 y.2.2 ∨ (y.2.2.len ≤ 2 * y.1 ∧ TdE L y.2.1 y.2.2))) (1, 0, A) rfl ?start ⟨Nat.le_refl 1, by show 1 ≤ 100; decide, by show A.len ≤ 65; omega, .inl (TdI.start A0 e2 hA)⟩ ?round
  case start =>
    exact Weak.gen [none] rfl ⟨rfl, trivial⟩ ⟨⟨_, rfl, rfl⟩, .inl ⟨_, _, rfl, rfl, fun _ _ _ _ => rfl⟩, ⟨_, rfl, hld⟩, rfl, ⟨_, rfl, rfl⟩, trivial⟩
  rintro ⟨n, t, a⟩ ⟨hn1, hn2, hal, hI⟩
  have hn1 : 1 ≤ n := hn1
  have hn2 : n ≤ 100 := hn2
  have hal : a.len ≤ 65 := hal
  have haL : (ofP a).1 = a.len := rfl
  have hI : TdI L (mnp n 0) t a ∨ (a.len ≤ 2 * n ∧ TdE L t a) := hI
  rcases Nat.lt_or_ge (2 * n) a.len with hc | hc
  · have hI : TdI L (mnp n 0) t a := hI.resolve_right fun h => by have := h.1; omega
    have hq0 : 0 < p.toNat ^ n := Nat.pow_pos (by omega)
    have kf := kf n (by omega)
    conv => whnf
    refine ⟨Fp.i64 (by omega) (by omega), ?_⟩
    conv => whnf
    refine bpos (show decide (2 * (n : Int) < (a.len : Int)) = true from decide_eq_true (by omega)) ?_
    conv => whnf
    refine ⟨_, kf, ?_⟩
    conv => whnf
    refine loop_ints (fun ((j, t, a) : Nat × Nat × Pol (Zp p)) => gst [(0, .c (.int .i64 p)), (6, pl a), (7, .c (.int .i64 F.lead.v)), (8, .c (.gs 0 0)), (9, .c (.int .i64 n)), (10, gV (p := p) n j), (11, .c (.bool (decide (j < p.toNat ^ n))))] [fcB (L.take t)]) (fun y => p.toNat ^ n - y.1) (fun y => y.2.2.len ≤ 65 ∧ ((y.1 < p.toNat ^ n ∧ TdI L (mnp n y.1) y.2.1 y.2.2) ∨ (y.1 = p.toNat ^ n ∧ TdI L (mnp (n + 1) 0) y.2.1 y.2.2))) (0, t, a) rfl ?start2 ⟨hal, .inl ⟨hq0, hI⟩⟩ ?round2
    case start2 =>
      exact Weak.gen [some 0] rfl ⟨⟨_, rfl, rfl, rfl, rfl, rfl, fun k y hk hy => regE rfl (fcs_clos _ hy)⟩, trivial⟩ ⟨⟨_, rfl, rfl⟩, .inl ⟨_, _, rfl, rfl, fun _ _ _ _ => rfl⟩, ⟨_, rfl, rfl⟩, ⟨_, rfl, rfl, rfl⟩, ⟨_, rfl, rfl⟩, regV_if hq0 (.inl ⟨_, _, rfl, rfl, fun _ _ _ _ => rfl⟩), ⟨_, rfl, (decide_eq_true hq0).symm⟩, trivial⟩
    rintro ⟨j, t, a⟩ ⟨hal, hI⟩
    have hal : a.len ≤ 65 := hal
    have haL : (ofP a).1 = a.len := rfl
    have hI : (j < p.toNat ^ n ∧ TdI L (mnp n j) t a) ∨ (j = p.toNat ^ n ∧ TdI L (mnp (n + 1) 0) t a) := hI
    rcases Nat.lt_or_ge j (p.toNat ^ n) with hj | hj
    · have hI : TdI L (mnp n j) t a := (hI.resolve_right fun h => by have := h.1; omega).2
      have eg : gV (p := p) n j = pl (mnp n j : Pol (Zp p)) := if_pos hj
      have ed : decide (j < p.toNat ^ n) = true := decide_eq_true hj
      show awp _ _ (gst [(0, .c (.int .i64 p)), (6, pl a), (7, .c (.int .i64 F.lead.v)), (8, .c (.gs 0 0)), (9, .c (.int .i64 n)), (10, gV (p := p) n j), (11, .c (.bool (decide (j < p.toNat ^ n))))] [fcB (L.take t)]) _
      rw [eg, ed]
      rcases Nat.lt_or_ge (2 * n) a.len with hc | hc
      · have hg0 : (mnp n j : Pol (Zp p)) ≠ 0 := Pol.ne_of_len (by rw [mnp_len]; omega)
        have hgl := mnp_len (p := p) n j
        have hg2 : 2 ≤ (mnp n j : Pol (Zp p)).len := by omega
        have hgd := mnp_lead (p := p) n j
        obtain ⟨K, k1, k2, k3⟩ := dvk_ex hg2 hI.ne
        have hb0 : ∀ i, i ≤ K → (dvk (mnp n j) a i).len ≤ 65 := fun i hi => Nat.le_trans (dvk_len hg0 hI.ne fun i' hi' => k3 i' (by omega)) hal
        have kd : ∀ i, i < K → FnOK Tryz.prog false 41 [.c (.int .i64 p), pl (dvk (mnp n j) a i), pl (mnp n j : Pol (Zp p))] (.t2 (pl (dvk (mnp n j) a (i + 1))) (pl (0 : Pol (Zp p)))) := fun i hi => rdiv_P hm (by have := hb0 i (by omega); omega) (by omega) (by rw [Crg.add_zero]; exact qo_dvs hg0 (k3 i hi)) (by rw [Pol.len_zero]; omega)
        have kz : FnOK Tryz.prog false 41 [.c (.int .i64 p), pl (dvk (mnp n j) a K), pl (mnp n j : Pol (Zp p))] (.t2 (pl (Pol.qo (dvk (mnp n j) a K) (mnp n j))) (pl (Pol.rm (dvk (mnp n j) a K) (mnp n j)))) := rdiv_P hm (by have := hb0 K (Nat.le_refl K); omega) (by omega) (Pol.qo_spec _ hg0) (Pol.rm_spec _ hg0).2
        have hz : 0 < (Pol.rm (dvk (mnp n j) a K) (mnp n j)).len := Pol.len_pos fun e => k2 ⟨Pol.qo (dvk (mnp n j) a K) (mnp n j), by
          have := Pol.qo_spec (dvk (mnp n j) a K) hg0
          rw [e, Crg.add_zero, Crg.mul_comm] at this
          exact this⟩
        have hzr : (ofP (Pol.rm (dvk (mnp n j) a K) (mnp n j))).1 = (Pol.rm (dvk (mnp n j) a K) (mnp n j)).len := rfl
        have hzz : (ofP (0 : Pol (Zp p))).1 = 0 := Pol.len_zero
        have hbK := hb0 K (Nat.le_refl K)
        have htk : (L.take t).length ≤ 64 := by rw [List.length_take]; omega
        have hn0 := fun (hK : K = 0) => hI.none (by rw [hK] at k2; exact k2)
        have hs1 := fun (hK : 0 < K) => hI.some hs hgd hg2 k3 k2 hK
        conv => whnf
        refine ⟨Fp.i64 (by omega) (by omega), ?_⟩
        conv => whnf
        refine bpos (show decide (2 * (n : Int) < (a.len : Int)) = true from decide_eq_true (by omega)) ?_
        conv => whnf
        refine loop_ints (fun i : Nat => gst [(0, .c (.int .i64 p)), (6, pl (dvk (mnp n j) a i)), (7, .c (.int .i64 F.lead.v)), (8, .c (.gs 0 0)), (9, .c (.int .i64 n)), (10, pl (mnp n j : Pol (Zp p))), (12, .c (.int .i64 i))] [fcB (L.take t)]) (fun i => K - i) (fun i => i ≤ K) 0 rfl ?start3 (Nat.zero_le _) ?round3
        case start3 =>
          exact Weak.gen [some 0] rfl ⟨⟨_, rfl, rfl, rfl, rfl, rfl, fun k y hk hy => regE rfl (fcs_clos _ hy)⟩, trivial⟩ ⟨⟨_, rfl, rfl⟩, .inl ⟨_, _, rfl, rfl, fun _ _ _ _ => rfl⟩, ⟨_, rfl, rfl⟩, ⟨_, rfl, rfl, rfl⟩, ⟨_, rfl, rfl⟩, .inl ⟨_, _, rfl, rfl, fun _ _ _ _ => rfl⟩, ⟨_, rfl, rfl⟩, trivial⟩
        intro i hi
        rcases Nat.lt_or_ge i K with hiK | hiK
        · have kd := kd i hiK
          conv => whnf
          refine ⟨_, kd, ?_⟩
          conv => whnf
          refine bneg (show decide ((0 : Int) < ((ofP (0 : Pol (Zp p))).1 : Int)) = false from decide_eq_false (by omega)) ?_
          conv => whnf
          refine ⟨Fp.i64 (by omega) (by omega), ?_⟩
          conv => whnf
          exact ⟨i + 1, by omega, Weak.gen [some 0] rfl ⟨⟨_, rfl, rfl, rfl, rfl, rfl, fun k y hk hy => regE rfl (fcs_clos _ hy)⟩, trivial⟩ ⟨⟨_, rfl, rfl⟩, .inl ⟨_, _, rfl, rfl, fun _ _ _ _ => rfl⟩, ⟨_, rfl, rfl⟩, ⟨_, rfl, rfl, rfl⟩, ⟨_, rfl, rfl⟩, .inl ⟨_, _, rfl, rfl, fun _ _ _ _ => rfl⟩, ⟨_, rfl, rfl⟩, trivial⟩, by omega⟩
        have hiK : i = K := by omega
        subst hiK
        rcases Nat.eq_zero_or_pos i with hK | hK
        · have hJ := hn0 hK
          rcases Nat.lt_or_ge (j + 1) (p.toNat ^ n) with hj1 | hj1
          · have h9 : TdJ L (mnp n j) t (dvk (mnp n j) a i) := by rw [hK]; exact hJ
            have kx := next_yes hm (n := n) (j := j) (by omega) hj hj1
            conv => whnf
            refine ⟨_, kz, ?_⟩
            conv => whnf
            refine bpos (show decide ((0 : Int) < ((ofP (Pol.rm (dvk (mnp n j) a i) (mnp n j))).1 : Int)) = true from decide_eq_true (by omega)) ?_
            conv => whnf
            refine bneg (show decide ((0 : Int) < (i : Int)) = false from decide_eq_false (by omega)) ?_
            conv => whnf
            refine ⟨_, kx, ?_⟩
            conv => whnf
            exact ⟨(j + 1, t, dvk (mnp n j) a i), by show p.toNat ^ n - (j + 1) < p.toNat ^ n - j; omega, Weak.gen [some 0] rfl ⟨⟨_, rfl, rfl, rfl, rfl, rfl, fun k y hk hy => regE rfl (fcs_clos _ hy)⟩, trivial⟩ ⟨⟨_, rfl, rfl⟩, .inl ⟨_, _, rfl, rfl, fun _ _ _ _ => rfl⟩, ⟨_, rfl, rfl⟩, ⟨_, rfl, rfl, rfl⟩, ⟨_, rfl, rfl⟩, regV_if hj1 (.inl ⟨_, _, rfl, rfl, fun _ _ _ _ => rfl⟩), ⟨_, rfl, (decide_eq_true hj1).symm⟩, trivial⟩, hbK, .inl ⟨hj1, h9.next hj1⟩⟩
          · have h9 : TdJ L (mnp n j) t (dvk (mnp n j) a i) := by rw [hK]; exact hJ
            have kx := next_no hm (n := n) (j := j) (by omega) hj (by omega)
            conv => whnf
            refine ⟨_, kz, ?_⟩
            conv => whnf
            refine bpos (show decide ((0 : Int) < ((ofP (Pol.rm (dvk (mnp n j) a i) (mnp n j))).1 : Int)) = true from decide_eq_true (by omega)) ?_
            conv => whnf
            refine bneg (show decide ((0 : Int) < (i : Int)) = false from decide_eq_false (by omega)) ?_
            conv => whnf
            refine ⟨_, kx, ?_⟩
            conv => whnf
            exact ⟨(j + 1, t, dvk (mnp n j) a i), by show p.toNat ^ n - (j + 1) < p.toNat ^ n - j; omega, Weak.gen [some 0] rfl ⟨⟨_, rfl, rfl, rfl, rfl, rfl, fun k y hk hy => regE rfl (fcs_clos _ hy)⟩, trivial⟩ ⟨⟨_, rfl, rfl⟩, .inl ⟨_, _, rfl, rfl, fun _ _ _ _ => rfl⟩, ⟨_, rfl, rfl⟩, ⟨_, rfl, rfl, rfl⟩, ⟨_, rfl, rfl⟩, regV_el (by omega) ⟨rfl, rfl⟩, ⟨_, rfl, (decide_eq_false (by omega)).symm⟩, trivial⟩, hbK, .inr ⟨(by show j + 1 = p.toNat ^ n; omega), h9.wrap (by omega)⟩⟩
        · have hJ := hs1 hK
          rcases Nat.lt_or_ge (j + 1) (p.toNat ^ n) with hj1 | hj1
          · have h9 := hJ.2
            have htk2 : (L.take (t + 1)).length = (L.take t).length + 1 := by rw [hJ.1, List.length_append]; rfl
            have kx := next_yes hm (n := n) (j := j) (by omega) hj hj1
            conv => whnf
            refine ⟨_, kz, ?_⟩
            conv => whnf
            refine bpos (show decide ((0 : Int) < ((ofP (Pol.rm (dvk (mnp n j) a i) (mnp n j))).1 : Int)) = true from decide_eq_true (by omega)) ?_
            conv => whnf
            refine bpos (show decide ((0 : Int) < (i : Int)) = true from decide_eq_true (by omega)) ?_
            conv => whnf
            refine ⟨by show (L.take t).length + 1 ≤ 16777216; omega, fun x y hx hy => ?_, ?_⟩
            · have hx : x < 1 := hx
              have hy : y < 2 := hy
              match x, y, hx, hy with
              | 0, 0, _, _ => exact ⟨rfl, fun h => rfl⟩
              | 0, 1, _, _ => exact ⟨rfl, fun h => rfl⟩
            conv => whnf
            refine ⟨_, kx, ?_⟩
            conv => whnf
            exact ⟨(j + 1, t + 1, dvk (mnp n j) a i), by show p.toNat ^ n - (j + 1) < p.toNat ^ n - j; omega, Weak.gen [some 0] rfl ⟨⟨_, rfl, rfl, rfl, htk2.symm, rfl, fun k y hk hy => regE (app_fcs1 (L.take t) (a := mnp n j) (v := i) rfl hJ.1 (Nat.lt_of_lt_of_eq hk htk2) hy) (fcs_clos _ hy)⟩, trivial⟩ ⟨⟨_, rfl, rfl⟩, .inl ⟨_, _, rfl, rfl, fun _ _ _ _ => rfl⟩, ⟨_, rfl, rfl⟩, ⟨_, rfl, rfl, rfl⟩, ⟨_, rfl, rfl⟩, regV_if hj1 (.inl ⟨_, _, rfl, rfl, fun _ _ _ _ => rfl⟩), ⟨_, rfl, (decide_eq_true hj1).symm⟩, trivial⟩, hbK, .inl ⟨hj1, h9.next hj1⟩⟩
          · have h9 := hJ.2
            have htk2 : (L.take (t + 1)).length = (L.take t).length + 1 := by rw [hJ.1, List.length_append]; rfl
            have kx := next_no hm (n := n) (j := j) (by omega) hj (by omega)
            conv => whnf
            refine ⟨_, kz, ?_⟩
            conv => whnf
            refine bpos (show decide ((0 : Int) < ((ofP (Pol.rm (dvk (mnp n j) a i) (mnp n j))).1 : Int)) = true from decide_eq_true (by omega)) ?_
            conv => whnf
            refine bpos (show decide ((0 : Int) < (i : Int)) = true from decide_eq_true (by omega)) ?_
            conv => whnf
            refine ⟨by show (L.take t).length + 1 ≤ 16777216; omega, fun x y hx hy => ?_, ?_⟩
            · have hx : x < 1 := hx
              have hy : y < 2 := hy
              match x, y, hx, hy with
              | 0, 0, _, _ => exact ⟨rfl, fun h => rfl⟩
              | 0, 1, _, _ => exact ⟨rfl, fun h => rfl⟩
            conv => whnf
            refine ⟨_, kx, ?_⟩
            conv => whnf
            exact ⟨(j + 1, t + 1, dvk (mnp n j) a i), by show p.toNat ^ n - (j + 1) < p.toNat ^ n - j; omega, Weak.gen [some 0] rfl ⟨⟨_, rfl, rfl, rfl, htk2.symm, rfl, fun k y hk hy => regE (app_fcs1 (L.take t) (a := mnp n j) (v := i) rfl hJ.1 (Nat.lt_of_lt_of_eq hk htk2) hy) (fcs_clos _ hy)⟩, trivial⟩ ⟨⟨_, rfl, rfl⟩, .inl ⟨_, _, rfl, rfl, fun _ _ _ _ => rfl⟩, ⟨_, rfl, rfl⟩, ⟨_, rfl, rfl, rfl⟩, ⟨_, rfl, rfl⟩, regV_el (by omega) ⟨rfl, rfl⟩, ⟨_, rfl, (decide_eq_false (by omega)).symm⟩, trivial⟩, hbK, .inr ⟨(by show j + 1 = p.toNat ^ n; omega), h9.wrap (by omega)⟩⟩
      · have hD := hI.done (mnp_len n j) hc
        conv => whnf
        refine ⟨Fp.i64 (by omega) (by omega), ?_⟩
        conv => whnf
        refine bneg (show decide (2 * (n : Int) < (a.len : Int)) = false from decide_eq_false (by omega)) ?_
        conv => whnf
        refine ⟨Fp.i64 (by omega) (by omega), ?_⟩
        conv => whnf
        exact ⟨(n + 1, t, a), by show 200 - (n + 1) < 200 - n; omega, Weak.gen [some 0] rfl ⟨⟨_, rfl, rfl, rfl, rfl, rfl, fun k y hk hy => regE rfl (fcs_clos _ hy)⟩, trivial⟩ ⟨⟨_, rfl, rfl⟩, .inl ⟨_, _, rfl, rfl, fun _ _ _ _ => rfl⟩, ⟨_, rfl, rfl⟩, ⟨_, rfl, rfl, rfl⟩, ⟨_, rfl, rfl⟩, trivial⟩, by show 1 ≤ n + 1; omega, by show n + 1 ≤ 100; omega, hal, .inr ⟨by show a.len ≤ 2 * (n + 1); omega, hD⟩⟩
    · have hj : j = p.toNat ^ n := by rcases hI with h | h; omega; exact h.1
      have hI : TdI L (mnp (n + 1) 0) t a := (hI.resolve_left fun h => by have := h.1; omega).2
      have ed : decide (j < p.toNat ^ n) = false := decide_eq_false (by omega)
      show awp _ _ (gst [(0, .c (.int .i64 p)), (6, pl a), (7, .c (.int .i64 F.lead.v)), (8, .c (.gs 0 0)), (9, .c (.int .i64 n)), (10, gV (p := p) n j), (11, .c (.bool (decide (j < p.toNat ^ n))))] [fcB (L.take t)]) _
      rw [ed]
      conv => whnf
      refine ⟨Fp.i64 (by omega) (by omega), ?_⟩
      conv => whnf
      exact ⟨(n + 1, t, a), by show 200 - (n + 1) < 200 - n; omega, Weak.gen [some 0] rfl ⟨⟨_, rfl, rfl, rfl, rfl, rfl, fun k y hk hy => regE rfl (fcs_clos _ hy)⟩, trivial⟩ ⟨⟨_, rfl, rfl⟩, .inl ⟨_, _, rfl, rfl, fun _ _ _ _ => rfl⟩, ⟨_, rfl, rfl⟩, ⟨_, rfl, rfl, rfl⟩, ⟨_, rfl, rfl⟩, trivial⟩, by show 1 ≤ n + 1; omega, by show n + 1 ≤ 100; omega, hal, .inl hI⟩
  · have hE : TdE L t a := by
      rcases hI with h | h
      · exact h.done (mnp_len n 0) hc
      · exact h.2
    obtain ⟨h1, h2, h3⟩ := hE
    have hcat := List.take_append_drop t L
    rcases h3 with ⟨h3, h4⟩ | h3
    · have eT : L.take t = L := by rw [h3, List.append_nil] at hcat; exact hcat
      show awp _ _ (gst [(0, .c (.int .i64 p)), (6, pl a), (7, .c (.int .i64 F.lead.v)), (8, .c (.gs 0 0)), (9, .c (.int .i64 n))] [fcB (L.take t)]) _
      rw [eT]
      conv => whnf
      refine ⟨Fp.i64 (by omega) (by omega), ?_⟩
      conv => whnf
      refine bneg (show decide (2 * (n : Int) < (a.len : Int)) = false from decide_eq_false (by omega)) ?_
      conv => whnf
      refine bneg (show decide ((1 : Int) < (a.len : Int)) = false from decide_eq_false (by omega)) ?_
      conv => whnf
      refine ⟨fun k y hk hy => fcs_clos L hy, ?_⟩
      conv => whnf
      exact ⟨rfl, Sub.refl _⟩
    · rw [h3] at hcat
      have hmem : (a, 1) ∈ L := by rw [← hcat]; simp
      have ha2 := (hL.f.all _ hmem).1.two
      have ha2 : 2 ≤ a.len := ha2
      have hsp := hs
      rw [← hcat, List.pairwise_append] at hsp
      have ki := insert_ok (l := L.take t) (f := a) (by rw [List.length_take]; omega) (by omega) (fun c hc' => by
        have := (hL.f.all c (List.mem_of_mem_take hc')).2.2.1.len f0
        omega) (fun c hc' => hsp.2.2 c hc' (a, 1) (by simp))
      rw [hcat] at ki
      conv => whnf
      refine ⟨Fp.i64 (by omega) (by omega), ?_⟩
      conv => whnf
      refine bneg (show decide (2 * (n : Int) < (a.len : Int)) = false from decide_eq_false (by omega)) ?_
      conv => whnf
      refine bpos (show decide ((1 : Int) < (a.len : Int)) = true from decide_eq_true (by omega)) ?_
      conv => whnf
      refine ⟨fun k y hk hy => fcs_clos (L.take t) hy, ?_⟩
      conv => whnf
      refine ⟨_, ki, ?_⟩
      conv => whnf
      exact ⟨rfl, Sub.refl _⟩
end
end Go.Proofs.YtlhdliafjconmaaGreat
/- The law's product and same. -/
namespace Go.Proofs.YtlhdliafjconmaaGreat
open Go.RowKit
section
variable {p : Int} [hp : Prm p]
theorem rmul_P (hm : Fp.md p) {a b : Pol (Zp p)} (ha : a.len ≤ 1024) (hb : b.len ≤ 1024) : FnOK Tryz.prog false 37 [.c (.int .i64 p), pl a, pl b] (pl (a * b)) := by
  rw [show pl (a * b) = Fp.cl (Fp.mulL p (ofP a) (ofP b)) by rw [mul_of hm a b (by omega) (by omega)]]
  exact Fp.refMul_L hm (ofP_NL a (by omega)) (ofP_NL b (by omega)) ha hb
theorem getD_mem {α : Type} {l : List α} {d : α} {i : Nat} (hi : i < l.length) : l.getD i d ∈ l := by
  rw [List.getD_eq_getElem?_getD, List.getElem?_eq_getElem hi]
  exact List.getElem_mem hi
/-- The product so far. -/
noncomputable def ot (c : Zp p) (L : List (Pol (Zp p) × Nat)) (i : Nat) : Pol (Zp p) := Pol.C c * prL (L.take i)
theorem prL_app (l m : List (Pol (Zp p) × Nat)) : prL (l ++ m) = prL l * prL m := by
  induction l with
  | nil => exact (Crg.one_mul _).symm
  | cons c l ih =>
    show Crg.pw c.1 c.2 * prL (l ++ m) = Crg.pw c.1 c.2 * prL l * prL m
    rw [ih, Crg.mul_assoc]
theorem ot_zero (c : Zp p) (L : List (Pol (Zp p) × Nat)) : ot c L 0 = Pol.C c := Crg.mul_one _
theorem ot_step (c : Zp p) {L : List (Pol (Zp p) × Nat)} {i : Nat} (h : i < L.length) : ot c L (i + 1) = ot c L i * Crg.pw (L.getD i (0, 0)).1 (L.getD i (0, 0)).2 := by
  unfold ot
  rw [take_next L (0, 0) h, prL_app, Crg.mul_assoc]
  show Pol.C c * (prL (L.take i) * (Crg.pw (L.getD i (0, 0)).1 (L.getD i (0, 0)).2 * 1)) = _
  rw [Crg.mul_one]
theorem ot_len {c : Zp p} (hc : c ≠ 0) {L : List (Pol (Zp p) × Nat)} (hL : ∀ x ∈ L, x.1 ≠ 0) : ∀ {i : Nat}, i ≤ L.length → (ot c L i).len = tdeg L i + 1 ∧ ot c L i ≠ 0
  | 0, _ => by rw [ot_zero, Pol.len_C hc]; exact ⟨rfl, Pol.ne_of_len (by rw [Pol.len_C hc]; decide)⟩
  | i + 1, h => by
    obtain ⟨h1, h2⟩ := ot_len hc hL (i := i) (by omega)
    obtain ⟨h3, h4⟩ := len_pw_eq (hL _ (getD_mem (d := (0, 0)) (show i < L.length by omega))) (L.getD i (0, 0)).2
    have h5 := Pol.len_mul h2 h4
    rw [ot_step c (by omega)]
    have h6 : tdeg L (i + 1) = tdeg L i + (L.getD i (0, 0)).2 * ((L.getD i (0, 0)).1.len - 1) := rfl
    exact ⟨by omega, Pol.ne_of_len (by omega)⟩
theorem ot_all {F : Pol (Zp p)} {L : List (Pol (Zp p) × Nat)} (f0 : F ≠ 0) (h : FacL F 1 L) : ot F.lead L L.length = F := by
  obtain ⟨M, lM, mM, g1, g2⟩ := monic_of f0
  have m0 : M ≠ 0 := Pol.ne_of_len (by have := Pol.len_pos f0; omega)
  have e := (h.assoc m0 f0 g2 g1).prod m0 mM
  unfold ot
  rw [List.take_length, ← e]
  obtain ⟨x, hx⟩ := g1
  have hx0 : x ≠ 0 := fun e1 => f0 (by rw [hx, e1, Crg.mul_zero])
  have l1 := Pol.len_mul m0 hx0
  rw [← hx] at l1
  have l2 := Pol.eq_C (a := x) (by omega)
  have l3 := Pol.lead_mul m0 hx0
  rw [← hx, mM, Crg.one_mul] at l3
  have l4 : x.lead = x.f 0 := by unfold Pol.lead; rw [show x.len - 1 = 0 by omega]
  rw [l3, l4, ← l2, Crg.mul_comm]
  exact hx.symm
theorem reg_C {q : Nat} {bl : List Blk} {ks : List (Option Nat)} {k : Nat} {B : Blk} {e : Cell → Prop} (hB : bl[k]? = some B) (he : e (.gs k B.u)) (hq : q.ble k = true) (hk : (ks.any fun x => x == some k) = false) (h1 : B.st ≤ 1) (h2 : B.sz = 1) (h3 : B.n = 1) {a : Pol (Zp p)} {c : Zp p} (hc : c ≠ 0) (ha : a = Pol.C c) (h4 : B.f 0 0 = .int .i64 c.v) : regC q bl ks (pc a) e := by
  rw [ha]
  refine .inr (.inr ⟨k, B, hB, he, hq, hk, h1, h2, h3.trans (Pol.len_C hc).symm, fun i j hi hj => ?_⟩)
  have hi : i < (Pol.C c : Pol (Zp p)).len := hi
  rw [Pol.len_C hc] at hi
  obtain rfl : i = 0 := by omega
  obtain rfl : j = 0 := by omega
  exact ⟨h4, rfl⟩
end
end Go.Proofs.YtlhdliafjconmaaGreat
/- The law's same. -/
namespace Go.Proofs.YtlhdliafjconmaaGreat
open Go.RowKit
theorem awp_skipQ {E : Env} {σ : St} {K : St → Prop} {R : Exit → St → Prop} (h : K σ) : awp E .skip σ (seqR K R) := h
/-- A drawn region at a round's start: the kernel is led to it by hand. -/
theorem awp_bsdQ {E : Env} {j id : Nat} {ops : Array Oper} {b1 b2 : Code} {σ : St} {R : Exit → St → Prop} (h : adraw E ops σ (fun σ' => awp E b1 σ' (blockR j (seqR (fun σ' => awp E b2 σ' R) R)))) : awp E (.seq (.block j (.seq (.region id ops true) b1)) b2) σ R := h
section
variable {p : Int} [hp : Prm p]
set_option maxHeartbeats 8000000 in
theorem sameF_ok {L : List (Pol (Zp p) × Nat)} (hl : L.length ≤ 4096) (hc : ∀ c ∈ L, c.1.len ≤ 4096) : FnOK Tryz.prog false 13 [.c (.row 2 L.length (fcs L)), .c (.row 2 L.length (fcs L))] (.c (.bool true)) := by
  have ki := fun i (hi : i < L.length) => ints_yes (a := (L.getD i (0, 0)).1) (b := (L.getD i (0, 0)).1) (hc _ (getD_mem hi)) (hc _ (getD_mem hi)) rfl
  refine fn_ok (E := E0) E0_ok Tryz.func13 rfl mixed (by kernel_rfl) (by kernel_rfl) ?_
  conv => whnf
  refine bneg (show (!decide ((L.length : Int) = (L.length : Int))) = false by simp) ?_
  conv => whnf
  refine loop_ints (fun i : Nat => gst [(0, .c (.row 2 L.length (fcs L))), (1, .c (.row 2 L.length (fcs L))), (5, .c (.int .i64 i))] []) (fun i => L.length - i) (fun i => i ≤ L.length) 0 rfl ?_ (Nat.zero_le _) fun i hi => ?_
  · exact Weak.gen [] rfl trivial ⟨.inl ⟨_, _, rfl, rfl, fun _ _ _ _ => rfl⟩, .inl ⟨_, _, rfl, rfl, fun _ _ _ _ => rfl⟩, ⟨_, rfl, rfl⟩, trivial⟩
  rcases Nat.lt_or_ge i L.length with h | h
  · have ki := ki i h
    conv => whnf
    refine bpos (show decide ((i : Int) < (L.length : Int)) = true from decide_eq_true (by omega)) ?_
    refine awp_skipQ ?_
    refine awp_bsdQ ?_
    conv => whnf
    refine ⟨by omega, by show (i : Int) < (L.length : Int); omega, ?_⟩
    conv => whnf
    refine ⟨by omega, by show (i : Int) < (L.length : Int); omega, ?_⟩
    conv => whnf
    refine bpos (show gw false (!decide ((((L.getD i (0, 0)).2 : Nat) : Int) = (((L.getD i (0, 0)).2 : Nat) : Int))) = true by rw [decide_eq_true rfl]; rfl) ?_
    conv => whnf
    refine ⟨by omega, by show (i : Int) < (L.length : Int); omega, ?_⟩
    conv => whnf
    refine ⟨by omega, by show (i : Int) < (L.length : Int); omega, ?_⟩
    conv => whnf
    refine ⟨_, ki, ?_⟩
    conv => whnf
    refine ⟨Fp.i64 (by omega) (by omega), ?_⟩
    conv => whnf
    exact ⟨i + 1, by omega, Weak.gen [] rfl trivial ⟨.inl ⟨_, _, rfl, rfl, fun _ _ _ _ => rfl⟩, .inl ⟨_, _, rfl, rfl, fun _ _ _ _ => rfl⟩, ⟨_, rfl, rfl⟩, trivial⟩, by omega⟩
  · obtain rfl : i = L.length := by omega
    conv => whnf
    refine bneg (show decide ((L.length : Int) < (L.length : Int)) = false from decide_eq_false (by omega)) ?_
    conv => whnf
    exact ⟨rfl, Sub.refl _⟩
end
end Go.Proofs.YtlhdliafjconmaaGreat
/- The law's product. -/
namespace Go.Proofs.YtlhdliafjconmaaGreat
open Go.RowKit
section
variable {p : Int} [hp : Prm p]
theorem regE_pl {q : Nat} {bl : List Blk} {ks : List (Option Nat)} {a b : Pol (Zp p)} (h : a = b) : regV q bl ks (pl a) (pl b) := by
  subst h
  exact .inl ⟨_, _, rfl, rfl, fun _ _ _ _ => rfl⟩
set_option maxRecDepth 100000 in
set_option maxHeartbeats 16000000 in
theorem prod_ok (hm : Fp.md p) {m : Nat} {x : Nat → Int} {F : Pol (Zp p)} {L : List (Pol (Zp p) × Nat)} (hmn : m ≤ 4096) (eF : Fp.nfL p (m, x) = ofP F) (f0 : F ≠ 0) (lF : F.len ≤ 65) (hL : FacS F L) (hLn : L.length ≤ 64) : FnOK Tryz.prog false 11 [.c (.int .i64 p), .c (.int .i64 F.lead.v), .c (.row 2 L.length (fcs L)), .c (il m x)] (.c (.bool true)) := by
  have hm1 := hm.1
  have hm2 := hm.2.1
  have hp0 := Pol.len_pos f0
  have hl0 := Pol.lead_ne f0
  have kN : FnOK Tryz.prog false 35 [.c (.int .i64 p), .c (il m x)] (pl F) := by
    have := Fp.refNormal_ok (p := p) (n := m) (a := x) (by omega) hm2 (by omega)
    have e : (Fp.tl (Fp.nf p m x) m, Fp.nf p m x) = ofP F := eF
    show FnOK _ _ _ _ (Fp.cl (ofP F))
    rw [← e]
    exact this
  have kS : FnOK Tryz.prog false 38 [pl (ot F.lead L L.length), pl F] (.c (.bool true)) := by
    rw [ot_all f0 hL.f]
    exact sameP_yes (n := F.len) (a := fun i => (F.f i).v) (by omega)
  have hne : ∀ c ∈ L, c.1 ≠ 0 := fun c hc => (hL.f.all c hc).1.ne
  have hdeg := hL.f.deg f0
  rw [← tdeg_all L] at hdeg
  have htd : ∀ i, i ≤ L.length → tdeg L i ≤ 64 := fun i hi => by
    have := tdeg_mono L hi
    omega
  have hfac : ∀ i, i < L.length → Pol.Irr (L.getD i (0, 0)).1 ∧ (L.getD i (0, 0)).1.lead = 1 ∧ 1 ≤ (L.getD i (0, 0)).2 ∧ (L.getD i (0, 0)).1.len ≤ 65 ∧ (L.getD i (0, 0)).2 ≤ 65 := fun i hi => by
    obtain ⟨a1, a2, a3, a4⟩ := hL.f.all _ (getD_mem (d := (0, 0)) hi)
    have a5 := (val_pos a1 f0).1 a3
    have a6 := a3.len f0
    have a7 := val_lt_len a1 f0
    exact ⟨a1, a2, by omega, by omega, by omega⟩
  have hbef : ∀ i, i < L.length → 0 < i → cmpP (L.getD (i - 1) (0, 0)).1 (L.getD i (0, 0)).1 < 0 := fun i hi h0 => by
    have h1 := (List.pairwise_iff_getElem.1 hL.s) (i - 1) i (by omega) hi (by omega)
    have e : ∀ k (hk : k < L.length), L.getD k (0, 0) = L[k] := fun k hk => by rw [List.getD_eq_getElem?_getD, List.getElem?_eq_getElem hk]; rfl
    rw [e (i - 1) (by omega), e i hi]
    exact h1
  refine fn_ok (E := E0) E0_ok Tryz.func11 rfl mixed (by kernel_rfl) (by kernel_rfl) ?_
  conv => whnf
  refine loop_ints (fun i : Nat => gst [(0, .c (.int .i64 p)), (2, .c (.row 2 L.length (fcs L))), (3, .c (il m x)), (9, pl (ot F.lead L i)), (10, .c (.int .i64 (tdeg L i : Nat))), (11, .c (.int .i64 i))] []) (fun i => L.length - i) (fun i => i ≤ L.length) 0 rfl ?_ (Nat.zero_le _) fun i hi => ?_
  · exact Weak.gen [] rfl trivial ⟨⟨_, rfl, rfl⟩, .inl ⟨_, _, rfl, rfl, fun _ _ _ _ => rfl⟩, .inl ⟨_, _, rfl, rfl, fun _ _ _ _ => rfl⟩, reg_C (p := p) (k := 0) (B := ⟨3, 1, 1, 0, 0, rowF 1 [.int .i64 F.lead.v]⟩) (e := fun x => V.c (.gs 0 0) = .c x) rfl rfl rfl rfl (Nat.zero_le _) rfl rfl hl0 (ot_zero F.lead L) rfl, ⟨_, rfl, rfl⟩, ⟨_, rfl, rfl⟩, trivial⟩
  rcases Nat.lt_or_ge i L.length with h | h
  · obtain ⟨a1, a2, a3, a4, a5⟩ := hfac i h
    have a6 := a1.two
    have htd0 := htd i (by omega)
    have htd1 := htd (i + 1) (by omega)
    obtain ⟨o1, o2⟩ := ot_len (c := F.lead) hl0 hne (i := i) (by omega)
    have hot := ot_step F.lead h
    have hot0 : ot F.lead L i = ot F.lead L i * Crg.pw (L.getD i (0, 0)).1 0 := (Crg.mul_one _).symm
    have kr := rirr_irr hm (g := (L.getD i (0, 0)).1) (by omega) a1
    have kmul : ∀ k, k < (L.getD i (0, 0)).2 → FnOK Tryz.prog false 37 [.c (.int .i64 p), pl (ot F.lead L i * Crg.pw (L.getD i (0, 0)).1 k), pl (L.getD i (0, 0)).1] (pl (ot F.lead L i * Crg.pw (L.getD i (0, 0)).1 (k + 1))) := fun k hk => by
      have e : ot F.lead L i * Crg.pw (L.getD i (0, 0)).1 (k + 1) = ot F.lead L i * Crg.pw (L.getD i (0, 0)).1 k * (L.getD i (0, 0)).1 := (Crg.mul_assoc _ _ _).symm
      rw [e]
      refine rmul_P hm ?_ (by omega)
      have h3 := len_pw_eq a1.ne k
      have h4 := Pol.len_mul_le (ot F.lead L i) (Crg.pw (L.getD i (0, 0)).1 k)
      have h5 : tdeg L (i + 1) = tdeg L i + (L.getD i (0, 0)).2 * ((L.getD i (0, 0)).1.len - 1) := rfl
      have h6 := Nat.mul_le_mul_right ((L.getD i (0, 0)).1.len - 1) (show k ≤ (L.getD i (0, 0)).2 by omega)
      omega
    have hstep : ((tdeg L (i + 1) : Nat) : Int) = (tdeg L i : Nat) + (((L.getD i (0, 0)).2 : Nat) : Int) * (((ofP (L.getD i (0, 0)).1).1 : Int) - 1) := by
      show ((tdeg L i + (L.getD i (0, 0)).2 * ((L.getD i (0, 0)).1.len - 1) : Nat) : Int) = _
      rw [Int.natCast_add, Int.natCast_mul]
      have : (((L.getD i (0, 0)).1.len - 1 : Nat) : Int) = ((ofP (L.getD i (0, 0)).1).1 : Int) - 1 := by
        show _ = ((L.getD i (0, 0)).1.len : Int) - 1
        omega
      rw [this]
    have hgl : (ofP (L.getD i (0, 0)).1).1 = (L.getD i (0, 0)).1.len := rfl
    have hmn0 : 0 ≤ (((L.getD i (0, 0)).2 : Nat) : Int) * (((ofP (L.getD i (0, 0)).1).1 : Int) - 1) := Int.mul_nonneg (Int.natCast_nonneg _) (by omega)
    have b1 : -9223372036854775808 ≤ (((L.getD i (0, 0)).2 : Nat) : Int) * (((ofP (L.getD i (0, 0)).1).1 : Int) - 1) := by omega
    have b2 : (((L.getD i (0, 0)).2 : Nat) : Int) * (((ofP (L.getD i (0, 0)).1).1 : Int) - 1) < 9223372036854775808 := by omega
    have b3 : -9223372036854775808 ≤ ((tdeg L i : Nat) : Int) + (((L.getD i (0, 0)).2 : Nat) : Int) * (((ofP (L.getD i (0, 0)).1).1 : Int) - 1) := by omega
    have b4 : ((tdeg L i : Nat) : Int) + (((L.getD i (0, 0)).2 : Nat) : Int) * (((ofP (L.getD i (0, 0)).1).1 : Int) - 1) < 9223372036854775808 := by omega
    have b5 : -9223372036854775808 ≤ ((ofP (L.getD i (0, 0)).1).1 : Int) - 1 := by omega
    have b6 : ((ofP (L.getD i (0, 0)).1).1 : Int) - 1 < 9223372036854775808 := by omega
    have h8 : (0 : Int) ≤ ((ofP (L.getD i (0, 0)).1).1 : Int) - 1 := by omega
    have h9 : ((ofP (L.getD i (0, 0)).1).1 : Int) - 1 < ((ofP (L.getD i (0, 0)).1).1 : Int) := by omega
    have htop : (ofP (L.getD i (0, 0)).1).2 (((ofP (L.getD i (0, 0)).1).1 : Int) - 1).toNat = 1 := by
      rw [show (((ofP (L.getD i (0, 0)).1).1 : Int) - 1).toNat = (L.getD i (0, 0)).1.len - 1 by omega]
      show (L.getD i (0, 0)).1.lead.v = 1
      rw [a2]
      exact Int.emod_eq_of_lt (by omega) (by omega)
    rcases Nat.eq_zero_or_pos i with h0 | h0
    · conv => whnf
      refine bpos (show decide ((i : Int) < (L.length : Int)) = true from decide_eq_true (by omega)) ?_
      conv => whnf
      refine ⟨by omega, by show (i : Int) < (L.length : Int); omega, ?_⟩
      conv => whnf
      refine bpos (show gw false (decide (((ofP (L.getD i (0, 0)).1).1 : Int) < 2)) = true by rw [decide_eq_false (by omega)]; rfl) ?_
      conv => whnf
      refine ⟨Fp.i64 b5 b6, ?_⟩
      conv => whnf
      refine ⟨h8, h9, ?_⟩
      conv => whnf
      refine bpos (show gw false (!decide ((ofP (L.getD i (0, 0)).1).2 (((ofP (L.getD i (0, 0)).1).1 : Int) - 1).toNat = 1)) = true by rw [decide_eq_true htop]; rfl) ?_
      conv => whnf
      refine ⟨by omega, by show (i : Int) < (L.length : Int); omega, ?_⟩
      conv => whnf
      refine bpos (show gw false (decide ((((L.getD i (0, 0)).2 : Nat) : Int) < 1)) = true by rw [decide_eq_false (by omega)]; rfl) ?_
      conv => whnf
      refine bneg (show gw true (decide ((0 : Int) < (i : Int))) = false by rw [decide_eq_false (by omega)]; rfl) ?_
      conv => whnf
      refine ⟨_, kr, ?_⟩
      conv => whnf
      refine ⟨by omega, by show (i : Int) < (L.length : Int); omega, ?_⟩
      conv => whnf
      refine ⟨Fp.i64 b5 b6, ?_⟩
      conv => whnf
      refine ⟨Fp.i64 b1 b2, ?_⟩
      conv => whnf
      refine ⟨Fp.i64 b3 b4, ?_⟩
      conv => whnf
      refine bneg (show decide ((64 : Int) < ((tdeg L i : Nat) : Int) + (((L.getD i (0, 0)).2 : Nat) : Int) * (((ofP (L.getD i (0, 0)).1).1 : Int) - 1)) = false from decide_eq_false (by omega)) ?_
      conv => whnf
      refine loop_ints (fun k : Nat => gst [(0, .c (.int .i64 p)), (2, .c (.row 2 L.length (fcs L))), (3, .c (il m x)), (9, pl (ot F.lead L i * Crg.pw (L.getD i (0, 0)).1 k)), (10, .c (.int .i64 (tdeg L (i + 1) : Nat))), (11, .c (.int .i64 i)), (12, pl (L.getD i (0, 0)).1), (13, .c (.int .i64 k))] []) (fun k => (L.getD i (0, 0)).2 - k) (fun k => k ≤ (L.getD i (0, 0)).2) 0 rfl ?_ (Nat.zero_le _) fun k hk => ?_
      · exact Weak.gen [] rfl trivial ⟨⟨_, rfl, rfl⟩, .inl ⟨_, _, rfl, rfl, fun _ _ _ _ => rfl⟩, .inl ⟨_, _, rfl, rfl, fun _ _ _ _ => rfl⟩, regE_pl hot0, ⟨_, rfl, hstep.symm⟩, ⟨_, rfl, rfl⟩, .inl ⟨_, _, rfl, rfl, fun _ _ _ _ => rfl⟩, ⟨_, rfl, rfl⟩, trivial⟩
      have kmul := kmul k
      rcases Nat.lt_or_ge k (L.getD i (0, 0)).2 with hk2 | hk2
      · have kmul := kmul hk2
        conv => whnf
        refine ⟨by omega, by show (i : Int) < (L.length : Int); omega, ?_⟩
        conv => whnf
        refine bpos (show decide ((k : Int) < (((L.getD i (0, 0)).2 : Nat) : Int)) = true from decide_eq_true (by omega)) ?_
        conv => whnf
        refine ⟨_, kmul, ?_⟩
        conv => whnf
        refine ⟨Fp.i64 (by omega) (by omega), ?_⟩
        conv => whnf
        exact ⟨k + 1, by omega, Weak.gen [] rfl trivial ⟨⟨_, rfl, rfl⟩, .inl ⟨_, _, rfl, rfl, fun _ _ _ _ => rfl⟩, .inl ⟨_, _, rfl, rfl, fun _ _ _ _ => rfl⟩, .inl ⟨_, _, rfl, rfl, fun _ _ _ _ => rfl⟩, ⟨_, rfl, rfl⟩, ⟨_, rfl, rfl⟩, .inl ⟨_, _, rfl, rfl, fun _ _ _ _ => rfl⟩, ⟨_, rfl, rfl⟩, trivial⟩, by omega⟩
      · have hke : k = (L.getD i (0, 0)).2 := by omega
        have hot1 : ot F.lead L i * Crg.pw (L.getD i (0, 0)).1 k = ot F.lead L (i + 1) := by rw [hke]; exact hot.symm
        conv => whnf
        refine ⟨by omega, by show (i : Int) < (L.length : Int); omega, ?_⟩
        conv => whnf
        refine bneg (show decide ((k : Int) < (((L.getD i (0, 0)).2 : Nat) : Int)) = false from decide_eq_false (by omega)) ?_
        conv => whnf
        refine ⟨Fp.i64 (by omega) (by omega), ?_⟩
        conv => whnf
        exact ⟨i + 1, by omega, Weak.gen [] rfl trivial ⟨⟨_, rfl, rfl⟩, .inl ⟨_, _, rfl, rfl, fun _ _ _ _ => rfl⟩, .inl ⟨_, _, rfl, rfl, fun _ _ _ _ => rfl⟩, regE_pl hot1, ⟨_, rfl, rfl⟩, ⟨_, rfl, rfl⟩, trivial⟩, by omega⟩

    · have hei : ((i : Int) - 1).toNat = i - 1 := by omega
      have kb : FnOK Tryz.prog false 36 [pl (L.getD ((i : Int) - 1).toNat (0, 0)).1, pl (L.getD i (0, 0)).1] (.c (.bool true)) := by
        rw [hei]
        have k := before_ok (a := (L.getD (i - 1) (0, 0)).1) (b := (L.getD i (0, 0)).1) (by have := (hfac (i - 1) (by omega)).2.2.2.1; omega) (by omega)
        rwa [decide_eq_true (hbef i h h0)] at k
      conv => whnf
      refine bpos (show decide ((i : Int) < (L.length : Int)) = true from decide_eq_true (by omega)) ?_
      conv => whnf
      refine ⟨by omega, by show (i : Int) < (L.length : Int); omega, ?_⟩
      conv => whnf
      refine bpos (show gw false (decide (((ofP (L.getD i (0, 0)).1).1 : Int) < 2)) = true by rw [decide_eq_false (by omega)]; rfl) ?_
      conv => whnf
      refine ⟨Fp.i64 b5 b6, ?_⟩
      conv => whnf
      refine ⟨h8, h9, ?_⟩
      conv => whnf
      refine bpos (show gw false (!decide ((ofP (L.getD i (0, 0)).1).2 (((ofP (L.getD i (0, 0)).1).1 : Int) - 1).toNat = 1)) = true by rw [decide_eq_true htop]; rfl) ?_
      conv => whnf
      refine ⟨by omega, by show (i : Int) < (L.length : Int); omega, ?_⟩
      conv => whnf
      refine bpos (show gw false (decide ((((L.getD i (0, 0)).2 : Nat) : Int) < 1)) = true by rw [decide_eq_false (by omega)]; rfl) ?_
      conv => whnf
      refine bpos (show gw true (decide ((0 : Int) < (i : Int))) = true by rw [decide_eq_true (by omega)]; rfl) ?_
      conv => whnf
      refine ⟨Fp.i64 (by omega) (by omega), ?_⟩
      conv => whnf
      refine ⟨by omega, by show (i : Int) - 1 < (L.length : Int); omega, ?_⟩
      conv => whnf
      refine ⟨_, kb, ?_⟩
      conv => whnf
      refine ⟨_, kr, ?_⟩
      conv => whnf
      refine ⟨by omega, by show (i : Int) < (L.length : Int); omega, ?_⟩
      conv => whnf
      refine ⟨Fp.i64 b5 b6, ?_⟩
      conv => whnf
      refine ⟨Fp.i64 b1 b2, ?_⟩
      conv => whnf
      refine ⟨Fp.i64 b3 b4, ?_⟩
      conv => whnf
      refine bneg (show decide ((64 : Int) < ((tdeg L i : Nat) : Int) + (((L.getD i (0, 0)).2 : Nat) : Int) * (((ofP (L.getD i (0, 0)).1).1 : Int) - 1)) = false from decide_eq_false (by omega)) ?_
      conv => whnf
      refine loop_ints (fun k : Nat => gst [(0, .c (.int .i64 p)), (2, .c (.row 2 L.length (fcs L))), (3, .c (il m x)), (9, pl (ot F.lead L i * Crg.pw (L.getD i (0, 0)).1 k)), (10, .c (.int .i64 (tdeg L (i + 1) : Nat))), (11, .c (.int .i64 i)), (12, pl (L.getD i (0, 0)).1), (13, .c (.int .i64 k))] []) (fun k => (L.getD i (0, 0)).2 - k) (fun k => k ≤ (L.getD i (0, 0)).2) 0 rfl ?_ (Nat.zero_le _) fun k hk => ?_
      · exact Weak.gen [] rfl trivial ⟨⟨_, rfl, rfl⟩, .inl ⟨_, _, rfl, rfl, fun _ _ _ _ => rfl⟩, .inl ⟨_, _, rfl, rfl, fun _ _ _ _ => rfl⟩, regE_pl hot0, ⟨_, rfl, hstep.symm⟩, ⟨_, rfl, rfl⟩, .inl ⟨_, _, rfl, rfl, fun _ _ _ _ => rfl⟩, ⟨_, rfl, rfl⟩, trivial⟩
      have kmul := kmul k
      rcases Nat.lt_or_ge k (L.getD i (0, 0)).2 with hk2 | hk2
      · have kmul := kmul hk2
        conv => whnf
        refine ⟨by omega, by show (i : Int) < (L.length : Int); omega, ?_⟩
        conv => whnf
        refine bpos (show decide ((k : Int) < (((L.getD i (0, 0)).2 : Nat) : Int)) = true from decide_eq_true (by omega)) ?_
        conv => whnf
        refine ⟨_, kmul, ?_⟩
        conv => whnf
        refine ⟨Fp.i64 (by omega) (by omega), ?_⟩
        conv => whnf
        exact ⟨k + 1, by omega, Weak.gen [] rfl trivial ⟨⟨_, rfl, rfl⟩, .inl ⟨_, _, rfl, rfl, fun _ _ _ _ => rfl⟩, .inl ⟨_, _, rfl, rfl, fun _ _ _ _ => rfl⟩, .inl ⟨_, _, rfl, rfl, fun _ _ _ _ => rfl⟩, ⟨_, rfl, rfl⟩, ⟨_, rfl, rfl⟩, .inl ⟨_, _, rfl, rfl, fun _ _ _ _ => rfl⟩, ⟨_, rfl, rfl⟩, trivial⟩, by omega⟩
      · have hke : k = (L.getD i (0, 0)).2 := by omega
        have hot1 : ot F.lead L i * Crg.pw (L.getD i (0, 0)).1 k = ot F.lead L (i + 1) := by rw [hke]; exact hot.symm
        conv => whnf
        refine ⟨by omega, by show (i : Int) < (L.length : Int); omega, ?_⟩
        conv => whnf
        refine bneg (show decide ((k : Int) < (((L.getD i (0, 0)).2 : Nat) : Int)) = false from decide_eq_false (by omega)) ?_
        conv => whnf
        refine ⟨Fp.i64 (by omega) (by omega), ?_⟩
        conv => whnf
        exact ⟨i + 1, by omega, Weak.gen [] rfl trivial ⟨⟨_, rfl, rfl⟩, .inl ⟨_, _, rfl, rfl, fun _ _ _ _ => rfl⟩, .inl ⟨_, _, rfl, rfl, fun _ _ _ _ => rfl⟩, regE_pl hot1, ⟨_, rfl, rfl⟩, ⟨_, rfl, rfl⟩, trivial⟩, by omega⟩

  · obtain rfl : i = L.length := by omega
    conv => whnf
    refine bneg (show decide ((L.length : Int) < (L.length : Int)) = false from decide_eq_false (by omega)) ?_
    conv => whnf
    refine .inr ?_
    conv => whnf
    refine ⟨_, kN, ?_⟩
    conv => whnf
    refine ⟨_, kS, ?_⟩
    conv => whnf
    exact ⟨rfl, Sub.refl _⟩
end
end Go.Proofs.YtlhdliafjconmaaGreat
/- The law FpolyFactors, as a contract. -/
namespace Go.Proofs.YtlhdliafjconmaaGreat
open Go.RowKit
section
variable {p x : Int} {n m l q : Nat} {a c : Nat → Int} {s : Bool}
set_option maxHeartbeats 8000000 in
theorem ff_long (h : 200 < n) : FnOK Tryz.prog true 3 [Fp.PP p n m l q a c s x] (.c (.bool true)) := by
  refine fn_ok (E := E1) E1_ok Tryz.func3 rfl mixed (by kernel_rfl) (by kernel_rfl) ?_
  conv => whnf
  refine ⟨_, awakeF, ?_⟩
  conv => whnf
  refine bpos (show decide ((200 : Int) < (n : Int)) = true from decide_eq_true (by omega)) ?_
  conv => whnf
  exact ⟨rfl, Sub.refl _⟩
set_option maxHeartbeats 8000000 in
theorem ff_no (h : n ≤ 200) (hm : ¬ Fp.md p) : FnOK Tryz.prog true 3 [Fp.PP p n m l q a c s x] (.c (.bool true)) := by
  have k1 : FnOK Tryz.prog true 8 [.c (.int .i64 p)] (.c (.bool false)) := by
    have k1 := (Fp.refModulus_ok (p := p)).weak (r := true)
    rwa [@decide_eq_false _ (Classical.propDecidable _) hm] at k1
  have kF := Factor_err (x := (n, a)) (e := 8) (Fp.prepare_no hm).weak (by decide)
  have kI := irred_err kF
  · refine fn_ok (E := E1) E1_ok Tryz.func3 rfl mixed (by kernel_rfl) (by kernel_rfl) ?_
    conv => whnf
    refine ⟨_, awakeF, ?_⟩
    conv => whnf
    refine bneg (show decide ((200 : Int) < (n : Int)) = false from decide_eq_false (by omega)) ?_
    conv => whnf
    refine ⟨_, kF, ?_⟩
    conv => whnf
    refine ⟨_, kI, ?_⟩
    conv => whnf
    refine ⟨_, k1, ?_⟩
    conv => whnf
    exact ⟨rfl, Sub.refl _⟩
set_option maxHeartbeats 8000000 in
theorem ff_zero (h : n ≤ 200) (hm : Fp.md p) (h0 : Fp.tl (Fp.nf p n a) n = 0) : FnOK Tryz.prog true 3 [Fp.PP p n m l q a c s x] (.c (.bool true)) := by
  have k1 : FnOK Tryz.prog true 8 [.c (.int .i64 p)] (.c (.bool true)) := by
    have k1 := (Fp.refModulus_ok (p := p)).weak (r := true)
    rwa [@decide_eq_true _ (Classical.propDecidable _) hm] at k1
  have d1 := (Fp.degree_ok (p := p) (n := n) (a := a) (by have := hm.1; omega) hm.2.1 (by omega)).weak (r := true)
  rw [h0] at d1
  have kF := Factor_err (x := (n, a)) (e := 5) (Fp.prepare_zero hm (show n ≤ 4096 by omega) rfl h0).weak (by decide)
  have kI := irred_err kF
  · refine fn_ok (E := E1) E1_ok Tryz.func3 rfl mixed (by kernel_rfl) (by kernel_rfl) ?_
    conv => whnf
    refine ⟨_, awakeF, ?_⟩
    conv => whnf
    refine bneg (show decide ((200 : Int) < (n : Int)) = false from decide_eq_false (by omega)) ?_
    conv => whnf
    refine ⟨_, kF, ?_⟩
    conv => whnf
    refine ⟨_, kI, ?_⟩
    conv => whnf
    refine ⟨_, k1, ?_⟩
    conv => whnf
    refine ⟨_, d1, ?_⟩
    conv => whnf
    exact ⟨rfl, Sub.refl _⟩
set_option maxHeartbeats 8000000 in
theorem ff_big (h : n ≤ 200) (hm : Fp.md p) (h0 : 65 < Fp.tl (Fp.nf p n a) n) : FnOK Tryz.prog true 3 [Fp.PP p n m l q a c s x] (.c (.bool true)) := by
  have k1 : FnOK Tryz.prog true 8 [.c (.int .i64 p)] (.c (.bool true)) := by
    have k1 := (Fp.refModulus_ok (p := p)).weak (r := true)
    rwa [@decide_eq_true _ (Classical.propDecidable _) hm] at k1
  have d1 := (Fp.degree_ok (p := p) (n := n) (a := a) (by have := hm.1; omega) hm.2.1 (by omega)).weak (r := true)
  have kF := Factor_err (x := (n, a)) (e := 7) (Fp.prepare_big hm (show n ≤ 4096 by omega) rfl h0).weak (by decide)
  have kI := irred_err kF
  generalize Fp.tl (Fp.nf p n a) n = N at *
  · refine fn_ok (E := E1) E1_ok Tryz.func3 rfl mixed (by kernel_rfl) (by kernel_rfl) ?_
    conv => whnf
    refine ⟨_, awakeF, ?_⟩
    conv => whnf
    refine bneg (show decide ((200 : Int) < (n : Int)) = false from decide_eq_false (by omega)) ?_
    conv => whnf
    refine ⟨_, kF, ?_⟩
    conv => whnf
    refine ⟨_, kI, ?_⟩
    conv => whnf
    refine ⟨_, k1, ?_⟩
    conv => whnf
    refine ⟨_, d1, ?_⟩
    conv => whnf
    refine bneg (show decide ((N : Int) - 1 < 0) = false from decide_eq_false (by omega)) ?_
    conv => whnf
    refine bpos (show decide ((64 : Int) < (N : Int) - 1) = true from decide_eq_true (by omega)) ?_
    conv => whnf
    exact ⟨rfl, Sub.refl _⟩
set_option maxHeartbeats 16000000 in
theorem ff_mid [hp : Prm p] (h : n ≤ 200) (hm : Fp.md p) {F : Pol (Zp p)} (eF : Fp.nfL p (n, a) = ofP F) (f0 : F ≠ 0) (lF : F.len ≤ 65) (h4 : 41 < F.len) : FnOK Tryz.prog true 3 [Fp.PP p n m l q a c s x] (.c (.bool true)) := by
  have k1 : FnOK Tryz.prog true 8 [.c (.int .i64 p)] (.c (.bool true)) := by
    have k1 := (Fp.refModulus_ok (p := p)).weak (r := true)
    rwa [@decide_eq_true _ (Classical.propDecidable _) hm] at k1
  have d1 := (Fp.degree_ok (p := p) (n := n) (a := a) (by have := hm.1; omega) hm.2.1 (by omega)).weak (r := true)
  rw [show Fp.tl (Fp.nf p n a) n = F.len from congrArg Prod.fst eF] at d1
  have hp0 := Pol.len_pos f0
  obtain ⟨L, sL, nL, kF⟩ := Factor_P hm (x := (n, a)) (show n ≤ 4096 by omega) eF f0 lF
  have kI := irred_ok kF
  generalize isI L = bI at *
  generalize F.lead.v = ld at *
  · refine fn_ok (E := E1) E1_ok Tryz.func3 rfl mixed (by kernel_rfl) (by kernel_rfl) ?_
    conv => whnf
    refine ⟨_, awakeF, ?_⟩
    conv => whnf
    refine bneg (show decide ((200 : Int) < (n : Int)) = false from decide_eq_false (by omega)) ?_
    conv => whnf
    refine ⟨_, kF, ?_⟩
    conv => whnf
    refine ⟨_, kI, ?_⟩
    conv => whnf
    refine ⟨_, k1, ?_⟩
    conv => whnf
    refine ⟨_, d1, ?_⟩
    conv => whnf
    refine bneg (show decide ((F.len : Int) - 1 < 0) = false from decide_eq_false (by omega)) ?_
    conv => whnf
    refine bneg (show decide ((64 : Int) < (F.len : Int) - 1) = false from decide_eq_false (by omega)) ?_
    conv => whnf
    refine bpos (show decide ((40 : Int) < (F.len : Int) - 1) = true from decide_eq_true (by omega)) ?_
    conv => whnf
    exact ⟨rfl, Sub.refl _⟩
set_option maxHeartbeats 16000000 in
theorem ff_dark [hp : Prm p] (h : n ≤ 200) (hm : Fp.md p) {F : Pol (Zp p)} (eF : Fp.nfL p (n, a) = ofP F) (f0 : F ≠ 0) (lF : F.len ≤ 65) (h4 : F.len ≤ 41) (h5 : ¬ p.toNat ^ ((F.len - 1) / 2) ≤ 3000) : FnOK Tryz.prog true 3 [Fp.PP p n m l q a c s x] (.c (.bool true)) := by
  have k1 : FnOK Tryz.prog true 8 [.c (.int .i64 p)] (.c (.bool true)) := by
    have k1 := (Fp.refModulus_ok (p := p)).weak (r := true)
    rwa [@decide_eq_true _ (Classical.propDecidable _) hm] at k1
  have d1 := (Fp.degree_ok (p := p) (n := n) (a := a) (by have := hm.1; omega) hm.2.1 (by omega)).weak (r := true)
  rw [show Fp.tl (Fp.nf p n a) n = F.len from congrArg Prod.fst eF] at d1
  have hp0 := Pol.len_pos f0
  obtain ⟨L, sL, nL, kF⟩ := Factor_P hm (x := (n, a)) (show n ≤ 4096 by omega) eF f0 lF
  have kI := irred_ok kF
  have kl := (light_ok hm (n := n) (a := a) (by omega) eF f0).weak (r := true)
  rw [decide_eq_false h5] at kl
  have kp := (prod_ok hm (m := n) (x := a) (by omega) eF f0 lF sL nL).weak (r := true)
  generalize F.lead.v = ld at *
  by_cases hl1 : L.length = 1
  · obtain ⟨y, rfl⟩ := List.length_eq_one_iff.1 hl1
    refine fn_ok (E := E1) E1_ok Tryz.func3 rfl mixed (by kernel_rfl) (by kernel_rfl) ?_
    conv => whnf
    refine ⟨_, awakeF, ?_⟩
    conv => whnf
    refine bneg (show decide ((200 : Int) < (n : Int)) = false from decide_eq_false (by omega)) ?_
    conv => whnf
    refine ⟨_, kF, ?_⟩
    conv => whnf
    refine ⟨_, kI, ?_⟩
    conv => whnf
    refine ⟨_, k1, ?_⟩
    conv => whnf
    refine ⟨_, d1, ?_⟩
    conv => whnf
    refine bneg (show decide ((F.len : Int) - 1 < 0) = false from decide_eq_false (by omega)) ?_
    conv => whnf
    refine bneg (show decide ((64 : Int) < (F.len : Int) - 1) = false from decide_eq_false (by omega)) ?_
    conv => whnf
    refine bneg (show decide ((40 : Int) < (F.len : Int) - 1) = false from decide_eq_false (by omega)) ?_
    conv => whnf
    refine ⟨_, kl, ?_⟩
    conv => whnf
    refine ⟨_, kp, ?_⟩
    conv => whnf
    refine ⟨by decide, by show (0 : Int) < 1; decide, ?_⟩
    conv => whnf
    exact ⟨rfl, Fp.subB (by simp [isI])⟩
  · have e : isI L = false := by
      match L, hl1 with
      | [], _ => rfl
      | [_], h => exact absurd rfl h
      | _ :: _ :: _, _ => rfl
    rw [e] at kI
    refine fn_ok (E := E1) E1_ok Tryz.func3 rfl mixed (by kernel_rfl) (by kernel_rfl) ?_
    conv => whnf
    refine ⟨_, awakeF, ?_⟩
    conv => whnf
    refine bneg (show decide ((200 : Int) < (n : Int)) = false from decide_eq_false (by omega)) ?_
    conv => whnf
    refine ⟨_, kF, ?_⟩
    conv => whnf
    refine ⟨_, kI, ?_⟩
    conv => whnf
    refine ⟨_, k1, ?_⟩
    conv => whnf
    refine ⟨_, d1, ?_⟩
    conv => whnf
    refine bneg (show decide ((F.len : Int) - 1 < 0) = false from decide_eq_false (by omega)) ?_
    conv => whnf
    refine bneg (show decide ((64 : Int) < (F.len : Int) - 1) = false from decide_eq_false (by omega)) ?_
    conv => whnf
    refine bneg (show decide ((40 : Int) < (F.len : Int) - 1) = false from decide_eq_false (by omega)) ?_
    conv => whnf
    refine ⟨_, kl, ?_⟩
    conv => whnf
    refine ⟨_, kp, ?_⟩
    conv => whnf
    refine bneg (show gw true (decide ((L.length : Int) = 1)) = false by rw [decide_eq_false (by omega)]; rfl) ?_
    conv => whnf
    exact ⟨rfl, Sub.refl _⟩
set_option maxHeartbeats 16000000 in
theorem ff_light [hp : Prm p] (h : n ≤ 200) (hm : Fp.md p) {F : Pol (Zp p)} (eF : Fp.nfL p (n, a) = ofP F) (f0 : F ≠ 0) (lF : F.len ≤ 65) (h4 : F.len ≤ 41) (h5 : p.toNat ^ ((F.len - 1) / 2) ≤ 3000) : FnOK Tryz.prog true 3 [Fp.PP p n m l q a c s x] (.c (.bool true)) := by
  have k1 : FnOK Tryz.prog true 8 [.c (.int .i64 p)] (.c (.bool true)) := by
    have k1 := (Fp.refModulus_ok (p := p)).weak (r := true)
    rwa [@decide_eq_true _ (Classical.propDecidable _) hm] at k1
  have d1 := (Fp.degree_ok (p := p) (n := n) (a := a) (by have := hm.1; omega) hm.2.1 (by omega)).weak (r := true)
  rw [show Fp.tl (Fp.nf p n a) n = F.len from congrArg Prod.fst eF] at d1
  have hp0 := Pol.len_pos f0
  obtain ⟨L, sL, nL, kF⟩ := Factor_P hm (x := (n, a)) (show n ≤ 4096 by omega) eF f0 lF
  have kI := irred_ok kF
  have kl := (light_ok hm (n := n) (a := a) (by omega) eF f0).weak (r := true)
  rw [decide_eq_true h5] at kl
  have kr := (rfac_ok hm (m := n) (x := a) (by omega) eF f0 lF sL nL).weak (r := true)
  have ks := (sameF_ok (L := L) (by omega) fun c hc => by
    have := (sL.f.all c hc).2.2.1.len f0
    omega).weak (r := true)
  generalize F.lead.v = ld at *
  by_cases hl1 : L.length = 1
  · obtain ⟨y, rfl⟩ := List.length_eq_one_iff.1 hl1
    refine fn_ok (E := E1) E1_ok Tryz.func3 rfl mixed (by kernel_rfl) (by kernel_rfl) ?_
    conv => whnf
    refine ⟨_, awakeF, ?_⟩
    conv => whnf
    refine bneg (show decide ((200 : Int) < (n : Int)) = false from decide_eq_false (by omega)) ?_
    conv => whnf
    refine ⟨_, kF, ?_⟩
    conv => whnf
    refine ⟨_, kI, ?_⟩
    conv => whnf
    refine ⟨_, k1, ?_⟩
    conv => whnf
    refine ⟨_, d1, ?_⟩
    conv => whnf
    refine bneg (show decide ((F.len : Int) - 1 < 0) = false from decide_eq_false (by omega)) ?_
    conv => whnf
    refine bneg (show decide ((64 : Int) < (F.len : Int) - 1) = false from decide_eq_false (by omega)) ?_
    conv => whnf
    refine bneg (show decide ((40 : Int) < (F.len : Int) - 1) = false from decide_eq_false (by omega)) ?_
    conv => whnf
    refine ⟨_, kl, ?_⟩
    conv => whnf
    refine ⟨_, kr, ?_⟩
    conv => whnf
    refine bpos (show gw true (decide (ld = ld)) = true by rw [decide_eq_true rfl]; rfl) ?_
    conv => whnf
    refine ⟨_, ks, ?_⟩
    conv => whnf
    refine ⟨by decide, by show (0 : Int) < 1; decide, ?_⟩
    conv => whnf
    exact ⟨rfl, Fp.subB (by simp [isI])⟩
  · have e : isI L = false := by
      match L, hl1 with
      | [], _ => rfl
      | [_], h => exact absurd rfl h
      | _ :: _ :: _, _ => rfl
    rw [e] at kI
    refine fn_ok (E := E1) E1_ok Tryz.func3 rfl mixed (by kernel_rfl) (by kernel_rfl) ?_
    conv => whnf
    refine ⟨_, awakeF, ?_⟩
    conv => whnf
    refine bneg (show decide ((200 : Int) < (n : Int)) = false from decide_eq_false (by omega)) ?_
    conv => whnf
    refine ⟨_, kF, ?_⟩
    conv => whnf
    refine ⟨_, kI, ?_⟩
    conv => whnf
    refine ⟨_, k1, ?_⟩
    conv => whnf
    refine ⟨_, d1, ?_⟩
    conv => whnf
    refine bneg (show decide ((F.len : Int) - 1 < 0) = false from decide_eq_false (by omega)) ?_
    conv => whnf
    refine bneg (show decide ((64 : Int) < (F.len : Int) - 1) = false from decide_eq_false (by omega)) ?_
    conv => whnf
    refine bneg (show decide ((40 : Int) < (F.len : Int) - 1) = false from decide_eq_false (by omega)) ?_
    conv => whnf
    refine ⟨_, kl, ?_⟩
    conv => whnf
    refine ⟨_, kr, ?_⟩
    conv => whnf
    refine bpos (show gw true (decide (ld = ld)) = true by rw [decide_eq_true rfl]; rfl) ?_
    conv => whnf
    refine ⟨_, ks, ?_⟩
    conv => whnf
    refine bneg (show gw true (decide ((L.length : Int) = 1)) = false by rw [decide_eq_false (by omega)]; rfl) ?_
    conv => whnf
    exact ⟨rfl, Sub.refl _⟩
theorem factors_ok : FnOK Tryz.prog true 3 [Fp.PP p n m l q a c s x] (.c (.bool true)) := by
  by_cases h : 200 < n
  · exact ff_long h
  have h : n ≤ 200 := by omega
  by_cases hm : Fp.md p
  · haveI := md_prm hm
    obtain ⟨F, eF⟩ := pol_of (Fp.NL.nfL hm (x := (n, a)) (show n ≤ 4096 by omega))
    have hF : Fp.tl (Fp.nf p n a) n = F.len := congrArg Prod.fst eF
    by_cases h0 : F = 0
    · exact ff_zero h hm (by rw [hF, h0, Pol.len_zero])
    by_cases h1 : 65 < F.len
    · exact ff_big h hm (by rw [hF]; exact h1)
    by_cases h2 : 41 < F.len
    · exact ff_mid h hm eF h0 (by omega) h2
    by_cases h3 : p.toNat ^ ((F.len - 1) / 2) ≤ 3000
    · exact ff_light h hm eF h0 (by omega) (by omega) h3
    · exact ff_dark h hm eF h0 (by omega) (by omega) h3
  · exact ff_no h hm
end
end Go.Proofs.YtlhdliafjconmaaGreat
/- The law FpolyFactors: its call, under what its argument reads as. -/
namespace Go.Proofs.YtlhdliafjconmaaGreat
open Go.ChangeShapes Go.WideShapes Go.ChangeAt Go.RowKit
variable {H : Type} {enc : TypeId × Value → H}
set_option maxRecDepth 100000 in
theorem walk_FpolyFactors {W : World} {base : Nat} {v0 : Value} {d0 : DataW H} {p0 : List MemPlace}
    (u0 : Value.okWide Tryz.prog W .any base 28 v0) (h0 : DataW.Trod enc Tryz.prog W 0 (fun _ => true) true 28 v0 d0 p0) :
    Calls Tryz.prog 3 #[v0] W fun e w' => e = .returned (.bool true) ∧ Below W.heap.size W w' := by
  obtain ⟨p, x, n, m, l, q, a, c, s, g0⟩ := open_polys u0 h0
  exact law_call (vs := [v0]) (factors_ok (p := p) (x := x) (n := n) (m := m) (l := l) (q := q) (a := a) (c := c) (s := s)) ⟨g0, trivial⟩
end Go.Proofs.YtlhdliafjconmaaGreat
