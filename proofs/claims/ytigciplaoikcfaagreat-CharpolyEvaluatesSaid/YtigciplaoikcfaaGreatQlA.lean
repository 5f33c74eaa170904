/- Lists of fractions in the program: what is dropped at the end, in a block of the caller's; the normal form, in a block of its own. -/
import Derived.Test.YtigciplaoikcfaaGreatNfB
import Derived.Test.YtigciplaoikcfaaGreatQp
import Derived.Test.YtigciplaoikcfaaGreatGs
namespace Go.Proofs.YtigciplaoikcfaaGreat
open Go.RowKit
abbrev qB (n : Nat) (c : Nat → RawR) : Blk := ⟨63, 4, n, 0, 0, qlF c⟩
theorem qB_plain (n : Nat) (c : Nat → RawR) : (qB n c).plain := fun _ i j _ _ => ql_clos i j
namespace Rf
theorem ql_lt {c : Nat → RawR} {m : Nat} (i j : Nat) : (qlF c i j).lt m = true := by
  match j with
  | 0 => rfl
  | 1 => rfl
  | 2 => rfl
  | 3 => rfl
  | j + 4 => rfl
theorem tb_tq {p : Nat → Bool} {v : Nat → Rat} : ∀ {n : Nat}, (∀ i, i < n → (p i = true ↔ v i = 0)) → tb p n = Q.tq v n
  | 0, _ => rfl
  | n + 1, h => by
    have h1 := h n (by omega)
    unfold tb Q.tq
    rw [tb_tq fun i hi => h i (by omega)]
    by_cases c : v n = 0
    · rw [if_pos (h1.2 c), if_pos c]
    · rw [if_neg (fun e => c (h1.1 e)), if_neg c]
theorem num_zero (x : Rat) : decide ((ofR x).num.ds.length = 0) = true ↔ x = 0 :=
  ⟨fun a => Rat.num_eq_zero.1 (zlen_eq_zero.1 (of_decide_eq_true a)), fun a => decide_eq_true (zlen_eq_zero.2 (Rat.num_eq_zero.2 a))⟩
theorem qtrim_nql {n : Nat} {v : Nat → Rat} (hn : n ≤ 1048576) : FnOK Tryz.prog true 75 [.c (nql n v)] (.c (nql (Q.tq v n) v)) := by
  have := (qtrim_ok (c := fun i => ofR (v i)) hn).weak (r := true)
  rwa [tb_tq (p := fun i => decide ((ofR (v i)).num.ds.length = 0)) (v := v) fun i _ => num_zero _] at this
set_option maxHeartbeats 4000000 in
theorem qtrim_m {n : Nat} {c : Nat → RawR} (hn : n ≤ 1048576) : FnM Tryz.prog true 75 (qB n c) [.c (.gs 0 0)] (.c (.sl 0 0 4 0 (tb (fun i => decide ((c i).num.ds.length = 0)) n))) (qB n c) [] := by
  obtain ⟨N, hN⟩ : ∃ N, N = tb (fun i => decide ((c i).num.ds.length = 0)) n := ⟨_, rfl⟩
  rw [← hN]
  refine fnm_ok (E := E1m) E1m_ok Tryz.func75 rfl mixed (by kernel_rfl) (by kernel_rfl) rfl ?_
  conv => whnf
  refine loop_inv (fun k σ => ∃ m : Nat, k = m ∧ (m ≤ n ∧ tb (fun i => decide ((c i).num.ds.length = 0)) m = N) ∧ σ = ⟨asg [(0, .c (.sl 0 0 4 0 m))], [qB n c]⟩) n ?_ ?_
  · refine ⟨_, (Weak.cut (tl := [(0, .c (.gs 0 0))]) (bl' := [qB n c]) rfl ⟨rfl, trivial⟩ rfl ⟨fun _ i j _ _ => ql_lt i j, trivial⟩ rfl).trans (Weak.gs_sl (tm' := asg [(0, .c (.sl 0 0 4 0 n))]) (k := 0) (B := qB n c) rfl (Nat.zero_le _) fun t => ?_), n, rfl, ⟨Nat.le_refl _, hN.symm⟩, rfl⟩
    by_cases e : t = 0
    · subst e; exact .inr ⟨rfl, rfl⟩
    · refine .inl ?_
      simp only [asg, if_neg e]
  · rintro k σ' ⟨m, hk, ⟨hm, ht⟩, rfl⟩
    have hz : ∀ k, m = k + 1 → (c k).num.ds.length = 0 → tb (fun i => decide ((c i).num.ds.length = 0)) k = N := fun k e h => by
      rw [← ht, e]
      simp only [tb]
      rw [if_pos (decide_eq_true h)]
    have hz' : ∀ k, m = k + 1 → (c k).num.ds.length ≠ 0 → m = N := fun k e h => by
      rw [← ht, e]
      simp only [tb]
      rw [if_neg (by simpa using h)]
    have h0 : m = 0 → m = N := fun e => by rw [← ht, e]; rfl
    clear ht
    conv => whnf
    refine bcase (fun (h : gw true (decide ((0 : Int) < m)) = true) => ?_) fun (h : gw true (decide ((0 : Int) < m)) = false) => ?_
    · have h := of_decide_eq_true (gw_true.1 h)
      have ek : m = ((m : Int) - 1).toNat + 1 := by omega
      conv => whnf
      refine ⟨i64 (by omega) (by omega), ?_⟩
      conv => whnf
      refine ⟨by omega, by omega, ?_⟩
      conv => whnf
      have ei : 0 + ((m : Int) - 1).toNat = ((m : Int) - 1).toNat := Nat.zero_add _
      have g1 : (c (0 + ((m : Int) - 1).toNat)).num.ds.length = 0 → tb (fun i => decide ((c i).num.ds.length = 0)) ((((m : Int) - 1) - 0).toNat) = N := fun a => by
        rw [ei] at a
        rw [Int.sub_zero]
        exact hz _ ek a
      have g2 : (c (0 + ((m : Int) - 1).toNat)).num.ds.length ≠ 0 → m = N := fun a => by
        rw [ei] at a
        exact hz' _ ek a
      refine bcase (fun (h1 : decide (((c (0 + ((m : Int) - 1).toNat)).num.ds.length : Int) = 0) = true) => ?_) fun (h1 : decide (((c (0 + ((m : Int) - 1).toNat)).num.ds.length : Int) = 0) = false) => ?_
      · have h1 := of_decide_eq_true h1
        have g := g1 (by omega)
        conv => whnf
        refine ⟨i64 (by omega) (by omega), ?_⟩
        conv => whnf
        refine ⟨by omega, by omega, ?_⟩
        conv => whnf
        refine ⟨by omega, ?_⟩
        conv => whnf
        refine ⟨(((m : Int) - 1) - 0).toNat, by omega, ⟨asg [(0, .c (.sl 0 0 4 0 (((m : Int) - 1) - 0).toNat))], [qB n c]⟩, ?_, _, rfl, ⟨by omega, g⟩, rfl⟩
        exact Weak.cut (tl := [(0, .c (.sl 0 0 4 0 (((m : Int) - 1) - 0).toNat))]) (bl' := [qB n c]) rfl ⟨rfl, trivial⟩ rfl ⟨fun _ i j _ _ => ql_lt i j, trivial⟩ rfl
      · have h1 := of_decide_eq_false h1
        have g := g2 (by omega)
        conv => whnf
        exact (Weak.cut (tl := [(0, .c (.sl 0 0 4 0 m))]) (bl' := [qB n c]) rfl ⟨rfl, trivial⟩ rfl ⟨fun _ i j _ _ => ql_lt i j, trivial⟩ rfl).trans (show Weak 1 ⟨asg [(0, .c (.sl 0 0 4 0 m))], [qB n c]⟩ ⟨asg [(0, .c (.sl 0 0 4 0 N))], [qB n c]⟩ from by rw [g]; exact Weak.refl _)
    · have h : ¬ (0 : Int) < m := of_decide_eq_false (gw_false.1 h)
      have g := h0 (by omega)
      conv => whnf
      exact (Weak.cut (tl := [(0, .c (.sl 0 0 4 0 m))]) (bl' := [qB n c]) rfl ⟨rfl, trivial⟩ rfl ⟨fun _ i j _ _ => ql_lt i j, trivial⟩ rfl).trans (show Weak 1 ⟨asg [(0, .c (.sl 0 0 4 0 m))], [qB n c]⟩ ⟨asg [(0, .c (.sl 0 0 4 0 N))], [qB n c]⟩ from by rw [g]; exact Weak.refl _)
set_option maxHeartbeats 4000000 in
theorem qnorm_ok {n : Nat} {q : Nat → RawR} {L : Nat} {v : Nat → Rat} (hv : (fun i => (q i).val) = v) (hn : n ≤ 1048576) (hq : ∀ i, i < n → (q i).Fit L) (hL : L + 3 ≤ LIM) : FnOK Tryz.prog true 29 [.c (ql n q)] (.c (nql (Q.tq v n) v)) := by
  have h1 : ∀ i, i < n → FnOK Tryz.prog true 74 [.g (rr (q i))] (.g (nq (v i))) := fun i hi => by
    rw [← hv]
    exact qnormal_ok (hq i hi) hL
  have h2 := qtrim_nql (v := v) hn
  clear hv hq
  generalize Q.tq v n = N at *
  have hT : ∀ i, i = n → FnOK Tryz.prog true 75 [.c (.row 4 n fun k j => (qpF v i k).getD j .any)] (.c (nql N v)) := fun i e => arg_ok h2 fun D w vs h => by
    match vs, h with
    | [v1], ⟨h1, _⟩ => exact ⟨subRowG rfl (fun k j hk hj => by rw [e]; exact qp_all hk j) D w v1 h1, trivial⟩
  refine fn_ok (E := E1) E1_ok Tryz.func29 rfl mixed (by kernel_rfl) (by kernel_rfl) ?_
  conv => whnf
  refine ⟨by omega, Int.le_refl _, by omega, by show (64 : Int) * n ≤ 281474976710656; omega, ?_⟩
  conv => whnf
  refine loop_ints (fun i : Nat => gst [(3, .c (.gs 0 0)), (9, .c (ql n q)), (10, .c (.int .i64 n)), (11, .c (.int .i64 i))] [gqp n v i]) (fun i => n - i) (fun i => i ≤ n) 0 rfl (Weak.gen [some 0] rfl ⟨⟨_, rfl, rfl, rfl, by show Int.toNat n = n; omega, rfl, fun k j hk hj => ?_⟩, trivial⟩ ⟨⟨_, rfl, rfl, rfl⟩, .inl ⟨_, _, rfl, rfl, fun _ _ _ _ => rfl⟩, ⟨_, rfl, rfl⟩, ⟨_, rfl, rfl⟩, trivial⟩) (Nat.zero_le _) fun i hi => ?_
  · exact regE (congrArg (fun l => l.getD j .any) (qp_zero v k).symm) (qp_clos k j)
  conv => whnf
  refine bcase (fun (h : decide ((i : Int) < n) = true) => ?_) fun (h : decide ((i : Int) < n) = false) => ?_
  · have h := of_decide_eq_true h
    have g1 := h1 i (by omega)
    conv => whnf
    refine ⟨by omega, by omega, ?_⟩
    conv => whnf
    refine ⟨_, g1, ?_⟩
    conv => whnf
    refine ⟨by omega, by show (i : Int) < (n : Int); omega, ?_⟩
    conv => whnf
    refine ⟨i64 (by omega) (by omega), ?_⟩
    conv => whnf
    refine ⟨i + 1, by omega, Weak.gen [some 0] rfl ⟨⟨_, rfl, rfl, rfl, rfl, rfl, fun j k hj hk => regE ?_ (qp_clos j k)⟩, trivial⟩ ⟨⟨_, rfl, rfl, rfl⟩, .inl ⟨_, _, rfl, rfl, fun _ _ _ _ => rfl⟩, ⟨_, rfl, rfl⟩, ⟨_, rfl, rfl⟩, trivial⟩, by omega⟩
    exact updG (sz := 4) (g := qpF v i) (g' := qpF v (i + 1)) (l := nq (v i)) rfl hk (qp_next v i j)
  · have h := of_decide_eq_false h
    have g := hT i (by omega)
    conv => whnf
    refine .inr ⟨fun k j _ _ => qp_clos k j, ?_⟩
    conv => whnf
    refine ⟨_, g, ?_⟩
    conv => whnf
    exact ⟨rfl, Sub.refl _⟩
/-- A list that is normal up to a place, and the zero value behind it. -/
def rmid (v : Nat → Rat) (i k : Nat) : RawR := if k < i then ofR (v k) else ⟨⟨false, []⟩, ⟨false, []⟩⟩
theorem rmid_next (v : Nat → Rat) (i k : Nat) : (if k = i then nq (v i) else rr (rmid v i k)) = rr (rmid v (i + 1) k) := by
  unfold rmid
  by_cases e : k = i
  · rw [if_pos e, if_pos (by omega), e]
  · rw [if_neg e]
    by_cases e2 : k < i
    · rw [if_pos e2, if_pos (by omega)]
    · rw [if_neg e2, if_neg (by omega)]
theorem rmid_all {v : Nat → Rat} {n k : Nat} (h : k < n) : rmid v n k = ofR (v k) := if_pos h
theorem rmid_zero (v : Nat → Rat) : rmid v 0 = fun _ => ⟨⟨false, []⟩, ⟨false, []⟩⟩ := funext fun k => if_neg (Nat.not_lt_zero k)
abbrev gqr (n : Nat) (c : Nat → RawR) : Gx := ⟨63, 4, n, qlF c⟩
set_option maxHeartbeats 4000000 in
theorem qnorm_m {n : Nat} {q : Nat → RawR} {L : Nat} {v : Nat → Rat} (hv : (fun i => (q i).val) = v) (hn : n ≤ 1048576) (hq : ∀ i, i < n → (q i).Fit L) (hL : L + 3 ≤ LIM) : FnM Tryz.prog true 29 phB [.c (ql n q)] (.c (.sl 1 0 4 0 (Q.tq v n))) phB [qB n fun i => ofR (v i)] := by
  have h1 : ∀ i, i < n → FnOK Tryz.prog true 74 [.g (rr (q i))] (.g (nq (v i))) := fun i hi => by
    rw [← hv]
    exact qnormal_ok (hq i hi) hL
  clear hv hq
  have hT : ∀ i, i = n → FnM Tryz.prog true 75 (qB n (rmid v i)) [.c (.gs 0 0)] (.c (.sl 0 0 4 0 (Q.tq v n))) (qB n (rmid v i)) [] := fun i e => by
    have := qtrim_m (n := n) (c := rmid v i) hn
    rwa [tb_tq (p := fun k => decide ((rmid v i k).num.ds.length = 0)) (v := v) fun k hk => by
      show decide ((rmid v i k).num.ds.length = 0) = true ↔ _
      rw [e, rmid_all hk]; exact num_zero _] at this
  generalize Q.tq v n = N at *
  refine fnm_ok (E := E1m) E1m_ok Tryz.func29 rfl mixed (by kernel_rfl) (by kernel_rfl) rfl ?_
  conv => whnf
  refine ⟨by omega, Int.le_refl _, by omega, by show (64 : Int) * n ≤ 281474976710656; omega, ?_⟩
  conv => whnf
  refine loop_ints1 (fun i : Nat => gst1 [(3, .c (.gs 1 0)), (9, .c (ql n q)), (10, .c (.int .i64 n)), (11, .c (.int .i64 i))] [gqr n (rmid v i)]) (fun i => n - i) (fun i => i ≤ n) 0 rfl (Weak.gen1 [some 1] rfl rfl ⟨⟨_, rfl, rfl, rfl, by show Int.toNat n = n; omega, rfl, fun k j hk hj => ?_⟩, trivial⟩ ⟨⟨_, rfl, rfl, rfl⟩, .inl ⟨_, _, rfl, rfl, fun _ _ _ _ => rfl⟩, ⟨_, rfl, rfl⟩, ⟨_, rfl, rfl⟩, trivial⟩) (Nat.zero_le _) fun i hi => ?_
  · show regC 1 _ _ (qlF (rmid v 0) k j) _
    rw [rmid_zero]
    match j, hj with
    | 0, _ => exact ⟨_, rfl, rfl⟩
    | 1, _ => exact .inr (.inl ⟨rfl, rfl⟩)
    | 2, _ => exact ⟨_, rfl, rfl⟩
    | 3, _ => exact .inr (.inl ⟨rfl, rfl⟩)
  conv => whnf
  refine bcase (fun (h : decide ((i : Int) < n) = true) => ?_) fun (h : decide ((i : Int) < n) = false) => ?_
  · have h := of_decide_eq_true h
    have g1 := h1 i (by omega)
    conv => whnf
    refine ⟨by omega, by omega, ?_⟩
    conv => whnf
    refine ⟨_, g1, ?_⟩
    conv => whnf
    refine ⟨by omega, by show (i : Int) < (n : Int); omega, ?_⟩
    conv => whnf
    refine ⟨i64 (by omega) (by omega), ?_⟩
    conv => whnf
    refine ⟨i + 1, by omega, Weak.gen1 [some 1] rfl rfl ⟨⟨_, rfl, rfl, rfl, rfl, rfl, fun j k hj hk => regE ?_ (ql_clos (c := rmid v (i + 1)) j k)⟩, trivial⟩ ⟨⟨_, rfl, rfl, rfl⟩, .inl ⟨_, _, rfl, rfl, fun _ _ _ _ => rfl⟩, ⟨_, rfl, rfl⟩, ⟨_, rfl, rfl⟩, trivial⟩, by omega⟩
    exact updG (sz := 4) (g := fun k => rr (rmid v i k)) (g' := fun k => rr (rmid v (i + 1) k)) (l := nq (v i)) rfl hk (rmid_next v i j)
  · have h := of_decide_eq_false h
    have g := hT i (by omega)
    conv => whnf
    refine .inl ⟨[], false, ?_⟩
    conv => whnf
    refine ⟨1, _, [.c (.gs 0 0)], _, _, _, g, rfl, .inl rfl, qB_plain _ _, qB_plain _ _, fun F hF => absurd hF List.not_mem_nil, rfl, rfl, ?_⟩
    conv => whnf
    refine Weak.gen1 (tl := [(0, .c (.sl 1 0 4 0 N))]) (xs := [gqr n fun i => ofR (v i)]) [some 1] rfl rfl ?_ ?_
    · exact ⟨⟨_, rfl, rfl, rfl, rfl, rfl, fun k j hk hj => regE (qlF_eq (c := rmid v i) (e := fun i => ofR (v i)) (i := k) (j := j) (k := k) (rmid_all (Nat.lt_of_lt_of_le hk (show n ≤ i by omega)))) (ql_clos (c := fun i => ofR (v i)) k j)⟩, trivial⟩
    · exact ⟨⟨_, _, rfl, rfl, rfl, rfl⟩, trivial⟩
end Rf
end Go.Proofs.YtigciplaoikcfaaGreat
/- Sums and products of lists of fractions in the program. -/
namespace Go.Proofs.YtigciplaoikcfaaGreat
open Go.RowKit
namespace Rf
set_option maxHeartbeats 4000000 in
theorem qzero_ok {q : RawR} {L : Nat} {x : Rat} (hx : q.val = x) (h : q.Fit L) (hL : L + 3 ≤ LIM) : FnOK Tryz.prog true 198 [.g (rr q)] (.c (.bool (decide (x = 0)))) := by
  have h1 := qsign_ok h hL
  rw [hx] at h1
  have e : x.num.sign = 0 ↔ x = 0 := ⟨fun a => Rat.num_eq_zero.1 (Int.sign_eq_zero_iff_zero.1 a), fun a => by rw [a]; rfl⟩
  refine fn_ok (E := E1) E1_ok Tryz.func198 rfl mixed (by kernel_rfl) (by kernel_rfl) ?_
  conv => whnf
  refine ⟨_, h1, ?_⟩
  conv => whnf
  exact ⟨rfl, sub_bool (decide_eq_decide.2 e)⟩
theorem qzero_nq (x : Rat) {L : Nat} (h : qlen x ≤ L) (hL : L + 3 ≤ LIM) : FnOK Tryz.prog true 198 [.g (nq x)] (.c (.bool (decide (x = 0)))) :=
  qzero_ok (q := ofR x) (ofR_val x) (ofR_fit h) hL
abbrev zraw : RawR := ⟨⟨false, []⟩, ⟨false, []⟩⟩
abbrev zcells : List Cell := [.bool false, .nil, .bool false, .nil]
theorem zraw_fit (L : Nat) : zraw.Fit L := ⟨fun _ hd => absurd hd List.not_mem_nil, fun _ hd => absurd hd List.not_mem_nil, Nat.zero_le _, Nat.zero_le _⟩
theorem zraw_val : zraw.val = 0 := by
  show ratio _ (sgn false (Dg.val [])) = 0
  exact ratio_zero_right _
theorem zsub : Sub (.g zcells) (.g (rr zraw)) := Sub.cells rfl fun i x y hx hy => by
  match i, hx, hy with
  | 0, hx, hy => cases hx; cases hy; exact SubC.refl _
  | 1, hx, hy => cases hx; cases hy; exact SubC.nil _ _
  | 2, hx, hy => cases hx; cases hy; exact SubC.refl _
  | 3, hx, hy => cases hx; cases hy; exact SubC.nil _ _
  | i + 4, hx, hy => simp at hx
/-- What stands at a place of a list: the zero value behind its end. -/
theorem qadd_any {x y : RawR} {lx ly : List Cell} {L : Nat} {z : Rat} (hx : x.Fit L) (hy : y.Fit L) (sx : Sub (.g lx) (.g (rr x))) (sy : Sub (.g ly) (.g (rr y))) (hL : L + L + 4 ≤ LIM) (hz : x.val + y.val = z) : FnOK Tryz.prog true 84 [.g lx, .g ly] (.g (nq z)) := by
  have h := qadd_ok hx hy hL
  rw [hz] at h
  refine arg_ok h fun D w vs h => ?_
  match vs, h with
  | [v0, v1], ⟨h0, h1, _⟩ => exact ⟨sx D w v0 h0, sy D w v1 h1, trivial⟩
set_option maxHeartbeats 8000000 in
theorem qpadd_ok {n m : Nat} {q p : Nat → RawR} {L : Nat} {v : Nat → Rat} (hv : ∀ i, i < max n m → Q.qx n (fun i => (q i).val) i + Q.qx m (fun i => (p i).val) i = v i) (hn : n ≤ 1048576) (hm : m ≤ 1048576) (hq : ∀ i, i < n → (q i).Fit L) (hp : ∀ i, i < m → (p i).Fit L) (hL : L + L + 4 ≤ LIM) : FnOK Tryz.prog true 112 [.c (ql n q), .c (ql m p), .c (.fn 84)] (.c (nql (Q.tq v (max n m)) v)) := by
  obtain ⟨M, hM⟩ : ∃ M, M = max n m := ⟨_, rfl⟩
  rw [← hM] at hv ⊢
  have a1 : ∀ i, i < M → i < n → i < m → FnOK Tryz.prog true 84 [.g (rr (q i)), .g (rr (p i))] (.g (nq (v i))) := fun i h h1 h2 => qadd_any (hq i h1) (hp i h2) (Sub.refl _) (Sub.refl _) hL (by rw [← hv i h, Q.qx_lt h1, Q.qx_lt h2])
  have a2 : ∀ i, i < M → i < n → ¬ i < m → FnOK Tryz.prog true 84 [.g (rr (q i)), .g zcells] (.g (nq (v i))) := fun i h h1 h2 => qadd_any (hq i h1) (zraw_fit L) (Sub.refl _) zsub hL (by rw [← hv i h, Q.qx_lt h1, zraw_val]; unfold Q.qx; rw [if_neg h2])
  have a3 : ∀ i, i < M → ¬ i < n → i < m → FnOK Tryz.prog true 84 [.g zcells, .g (rr (p i))] (.g (nq (v i))) := fun i h h1 h2 => qadd_any (zraw_fit L) (hp i h2) zsub (Sub.refl _) hL (by rw [← hv i h, Q.qx_lt h2, zraw_val]; unfold Q.qx; rw [if_neg h1])
  have hMn : M ≤ 1048576 := by omega
  have h2 := qtrim_nql (v := v) hMn
  have eM : (if ((m : Nat) : Int) > ((n : Nat) : Int) then ((m : Nat) : Int) else ((n : Nat) : Int)) = (M : Nat) := by split <;> omega
  have eM2 : (if ((m : Nat) : Int) > ((n : Nat) : Int) then ((m : Nat) : Int) else ((n : Nat) : Int)).toNat = M := by rw [eM]; omega
  clear hv hq hp
  generalize Q.tq v M = N at *
  have hT : ∀ i, i = M → FnOK Tryz.prog true 75 [.c (.row 4 M fun k j => (qpF v i k).getD j .any)] (.c (nql N v)) := fun i e => arg_ok h2 fun D w vs h => by
    match vs, h with
    | [v1], ⟨h1, _⟩ => exact ⟨subRowG rfl (fun k j hk hj => by rw [e]; exact qp_all hk j) D w v1 h1, trivial⟩
  refine fn_ok (E := E1) E1_ok Tryz.func112 rfl mixed (by kernel_rfl) (by kernel_rfl) ?_
  conv => whnf
  refine ⟨by rw [eM]; omega, Int.le_refl _, by rw [eM]; omega, by show (64 : Int) * (if ((m : Nat) : Int) > ((n : Nat) : Int) then ((m : Nat) : Int) else ((n : Nat) : Int)) ≤ 281474976710656; rw [eM]; omega, ?_⟩
  conv => whnf
  refine loop_ints (fun i : Nat => gst [(0, .c (ql n q)), (1, .c (ql m p)), (2, .c (.fn 84)), (7, .c (.gs 0 0)), (18, .c (.int .i64 M)), (19, .c (.int .i64 i))] [gqp M v i]) (fun i => M - i) (fun i => i ≤ M) 0 rfl (Weak.gen [some 0] rfl ⟨⟨_, rfl, rfl, rfl, eM2, rfl, fun k j hk hj => ?_⟩, trivial⟩ ⟨.inl ⟨_, _, rfl, rfl, fun _ _ _ _ => rfl⟩, .inl ⟨_, _, rfl, rfl, fun _ _ _ _ => rfl⟩, ⟨rfl, rfl⟩, ⟨_, rfl, rfl, rfl⟩, ⟨_, rfl, by show ((if ((m : Nat) : Int) > ((n : Nat) : Int) then ((m : Nat) : Int) else ((n : Nat) : Int)).toNat : Int) = _; rw [eM2]⟩, ⟨_, rfl, rfl⟩, trivial⟩) (Nat.zero_le _) fun i hi => ?_
  · exact regE (congrArg (fun l => l.getD j .any) (qp_zero v k).symm) (qp_clos k j)
  have b1 := a1 i
  have b2 := a2 i
  have b3 := a3 i
  conv => whnf
  refine bcase (fun (h : decide ((i : Int) < M) = true) => ?_) fun (h : decide ((i : Int) < M) = false) => ?_
  · have h := of_decide_eq_true h
    have b1 := b1 (by omega)
    have b2 := b2 (by omega)
    have b3 := b3 (by omega)
    conv => whnf
    refine bcase (fun (c1 : decide ((i : Int) < n) = true) => ?_) fun (c1 : decide ((i : Int) < n) = false) => ?_
    · have c1 := of_decide_eq_true c1
      have b1 := b1 (by omega)
      have b2 := b2 (by omega)
      conv => whnf
      refine ⟨by omega, by omega, ?_⟩
      conv => whnf
      refine bcase (fun (c2 : decide ((i : Int) < m) = true) => ?_) fun (c2 : decide ((i : Int) < m) = false) => ?_
      · have c2 := of_decide_eq_true c2
        have b1 := b1 (by omega)
        conv => whnf
        refine ⟨by omega, by omega, ?_⟩
        conv => whnf
        refine ⟨_, b1, ?_⟩
        conv => whnf
        refine ⟨by omega, by show (i : Int) < (M : Int); omega, ?_⟩
        conv => whnf
        refine ⟨i64 (by omega) (by omega), ?_⟩
        conv => whnf
        refine ⟨i + 1, by omega, Weak.gen [some 0] rfl ⟨⟨_, rfl, rfl, rfl, rfl, rfl, fun j k hj hk => regE ?_ (qp_clos j k)⟩, trivial⟩ ⟨.inl ⟨_, _, rfl, rfl, fun _ _ _ _ => rfl⟩, .inl ⟨_, _, rfl, rfl, fun _ _ _ _ => rfl⟩, ⟨rfl, rfl⟩, ⟨_, rfl, rfl, rfl⟩, ⟨_, rfl, rfl⟩, ⟨_, rfl, rfl⟩, trivial⟩, by omega⟩
        exact updG (sz := 4) (g := qpF v i) (g' := qpF v (i + 1)) (l := nq (v i)) rfl hk (qp_next v i j)
      · have c2 := of_decide_eq_false c2
        have b2 := b2 (by omega)
        conv => whnf
        refine ⟨_, b2, ?_⟩
        conv => whnf
        refine ⟨by omega, by show (i : Int) < (M : Int); omega, ?_⟩
        conv => whnf
        refine ⟨i64 (by omega) (by omega), ?_⟩
        conv => whnf
        refine ⟨i + 1, by omega, Weak.gen [some 0] rfl ⟨⟨_, rfl, rfl, rfl, rfl, rfl, fun j k hj hk => regE ?_ (qp_clos j k)⟩, trivial⟩ ⟨.inl ⟨_, _, rfl, rfl, fun _ _ _ _ => rfl⟩, .inl ⟨_, _, rfl, rfl, fun _ _ _ _ => rfl⟩, ⟨rfl, rfl⟩, ⟨_, rfl, rfl, rfl⟩, ⟨_, rfl, rfl⟩, ⟨_, rfl, rfl⟩, trivial⟩, by omega⟩
        exact updG (sz := 4) (g := qpF v i) (g' := qpF v (i + 1)) (l := nq (v i)) rfl hk (qp_next v i j)
    · have c1 := of_decide_eq_false c1
      have c2 : i < m := by omega
      have b3 := b3 (by omega) c2
      conv => whnf
      refine bpos (show decide ((i : Int) < m) = true from decide_eq_true (by omega)) ?_
      conv => whnf
      refine ⟨by omega, by omega, ?_⟩
      conv => whnf
      refine ⟨_, b3, ?_⟩
      conv => whnf
      refine ⟨by omega, by show (i : Int) < (M : Int); omega, ?_⟩
      conv => whnf
      refine ⟨i64 (by omega) (by omega), ?_⟩
      conv => whnf
      refine ⟨i + 1, by omega, Weak.gen [some 0] rfl ⟨⟨_, rfl, rfl, rfl, rfl, rfl, fun j k hj hk => regE ?_ (qp_clos j k)⟩, trivial⟩ ⟨.inl ⟨_, _, rfl, rfl, fun _ _ _ _ => rfl⟩, .inl ⟨_, _, rfl, rfl, fun _ _ _ _ => rfl⟩, ⟨rfl, rfl⟩, ⟨_, rfl, rfl, rfl⟩, ⟨_, rfl, rfl⟩, ⟨_, rfl, rfl⟩, trivial⟩, by omega⟩
      exact updG (sz := 4) (g := qpF v i) (g' := qpF v (i + 1)) (l := nq (v i)) rfl hk (qp_next v i j)
  · have h := of_decide_eq_false h
    have g := hT i (by omega)
    conv => whnf
    refine .inr ⟨fun k j _ _ => qp_clos k j, ?_⟩
    conv => whnf
    refine ⟨_, g, ?_⟩
    conv => whnf
    exact ⟨rfl, Sub.refl _⟩
end Rf
end Go.Proofs.YtigciplaoikcfaaGreat
/- Products of lists of fractions in the program. -/
namespace Go.Proofs.YtigciplaoikcfaaGreat
open Go.RowKit
namespace Rf
theorem qlen_mul {x y : Rat} {L L' : Nat} (hx : qlen x ≤ L) (hy : qlen y ≤ L') (h1 : 1 ≤ L + L') : qlen (x * y) ≤ L + L' := by
  have e : x * y = ratio (x.num * y.num) ((x.den : Int) * (y.den : Int)) := by
    rw [← ratio_mul, ratio_num_den, ratio_num_den]
  rw [e]
  unfold qlen at hx hy
  have a1 := zlen_mul x.num y.num
  have a2 := zlen_mul (x.den : Int) (y.den : Int)
  exact qlen_ratio (by omega) (by omega) h1
theorem tq_zero {v : Nat → Rat} (h : ∀ k, v k = 0) : ∀ n, Q.tq v n = 0
  | 0 => rfl
  | n + 1 => by unfold Q.tq; rw [if_pos (h n), tq_zero h n]
theorem cf_nil {F G : Nat → Rat} (h : (∀ k, F k = 0) ∨ ∀ k, G k = 0) (k : Nat) : Q.cf F G k = 0 := Q.su_zero fun i _ => by
  rcases h with h | h
  · rw [h, Rat.zero_mul]
  · rw [h, Rat.mul_zero]
theorem nil_row (n : Nat) (f : Nat → Nat → Cell) (h : n = 0) : Sub (.c .nil) (.c (.row 4 n f)) := by
  subst h
  exact fun D w v h => SubC.nil 4 f D w v h
theorem qof_zero : FnOK Tryz.prog true 66 [.c (.int .i64 0)] (.g (nq 0)) := by
  have h := qof_ok (n := 0) (by decide) (by decide)
  rwa [show ((0 : Int) : Rat) = 0 from rfl] at h
end Rf
end Go.Proofs.YtigciplaoikcfaaGreat
