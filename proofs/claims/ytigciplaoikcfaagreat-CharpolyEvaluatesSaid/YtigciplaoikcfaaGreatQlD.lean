/- Division of lists of fractions by a monic one, in the program. -/
import Derived.Test.YtigciplaoikcfaaGreatQlA
import Derived.Test.YtigciplaoikcfaaGreatCut
namespace Go.Proofs.YtigciplaoikcfaaGreat
open Go.RowKit
namespace Rf
/-- A list that is filled from its end. -/
def qm (u : Nat → Rat) (k x : Nat) : RawR := if k ≤ x then ofR (u x) else zraw
theorem qm_self (u : Nat → Rat) (k : Nat) : qm u k k = ofR (u k) := if_pos (Nat.le_refl k)
theorem qm_next (u : Nat → Rat) (i x : Nat) : (if x = i then nq (u i) else rr (qm u (i + 1) x)) = rr (qm u i x) := by
  unfold qm
  by_cases e : x = i
  · rw [if_pos e, if_pos (by omega), e]
  · rw [if_neg e]
    by_cases e2 : i + 1 ≤ x
    · rw [if_pos e2, if_pos (by omega)]
    · rw [if_neg e2, if_neg (by omega)]
theorem qm_zero (u : Nat → Rat) : qm u 0 = fun x => ofR (u x) := funext fun x => if_pos (Nat.zero_le x)
theorem qm_top {u : Nat → Rat} {N x : Nat} (h : x < N) : qm u N x = zraw := if_neg (by omega)
theorem div_one_ok (x : Rat) {L : Nat} (h : qlen x ≤ L) (hL : L + 8 ≤ LIM) : FnOK Tryz.prog true 69 [.g (nq x), .g (nq 1)] (.t2 (.g (nq x)) (.c (.int .i64 0))) := by
  have := qquo_ok (q := ofR x) (p := ofR 1) (ofR_fit h) (ofR_fit (L := 1) (by decide)) (by omega) (by rw [ofR_val]; decide)
  rw [ofR_val, ofR_val, show x / 1 = x by grind] at this
  exact this
set_option maxHeartbeats 16000000 in
theorem qpdiv_long {n d : Nat} {v f : Nat → Rat} {K : Nat} (hf : Q.Mon d f) (ht : Q.tq v n = n) (hnd : d < n) (hn : n ≤ 4096) (hs : ∀ t k, t ≤ n - d → qlen (Q.dvs d f (n - d) v t k) ≤ K) (hg : ∀ j, qlen (f j) ≤ K) (h1 : 1 ≤ K) (hL : K + K + K + 16 ≤ LIM) : FnOK Tryz.prog true 191 [.c (nql n v), .c (nql (d + 1) f)] (.t2 (.c (nql (Q.tq (Q.dvq d f (n - d) v) (n - d)) (Q.dvq d f (n - d) v))) (.c (nql (Q.tq (Q.dvs d f (n - d) v (n - d)) n) (Q.dvs d f (n - d) v (n - d))))) := by
  have hv0 : ∀ i, i < n → (ofR (v i)).Fit K := fun i _ => ofR_fit (hs 0 i (Nat.zero_le _))
  have hN0 := qnorm_m (q := fun i => ofR (v i)) (v := v) (n := n) (funext fun i => ofR_val _) (by omega) hv0 (by omega)
  rw [ht] at hN0
  obtain ⟨N, hN⟩ : ∃ N, N = n - d := ⟨_, rfl⟩
  rw [← hN] at hs ⊢
  have ft := hf.top
  have q1 : ∀ t k, t ≤ N → FnOK Tryz.prog true 69 [.g (nq (Q.dvs d f N v t k)), .g (nq (f d))] (.t2 (.g (nq (Q.dvs d f N v t k))) (.c (.int .i64 0))) := fun t k h => by
    rw [ft]
    exact div_one_ok _ (hs t k h) (by omega)
  have z1 : ∀ i, i < N → FnOK Tryz.prog true 198 [.g (nq (Q.dvq d f N v i))] (.c (.bool (decide (Q.dvq d f N v i = 0)))) := fun i hi => qzero_nq _ (hs (N - 1 - i) (i + d) (by omega)) (by omega)
  have p1 : ∀ i j, i < N → FnOK Tryz.prog true 67 [.g (rr (qm (Q.dvq d f N v) i i)), .g (nq (f j))] (.g (nq (Q.dvq d f N v i * f j))) := fun i j hi => by
    rw [qm_self]
    have := qmul_ok (q := ofR (Q.dvq d f N v i)) (p := ofR (f j)) (ofR_fit (hs (N - 1 - i) (i + d) (by omega))) (ofR_fit (hg j)) (by omega)
    rwa [ofR_val, ofR_val] at this
  have s1 : ∀ i j, i < N → FnOK Tryz.prog true 111 [.g (nq (Q.dpt (Q.dvq d f N v i) f (Q.dvs d f N v (N - (i + 1))) i j (i + j))), .g (nq (Q.dvq d f N v i * f j))] (.g (nq (Q.dvs d f N v (N - (i + 1)) (i + j) - Q.dvq d f N v i * f j))) := fun i j hi => by
    rw [Q.dpt_old]
    have k1 : qlen (Q.dvq d f N v i) ≤ K := hs (N - 1 - i) (i + d) (by omega)
    have := qsub_ok (q := ofR (Q.dvs d f N v (N - (i + 1)) (i + j))) (p := ofR (Q.dvq d f N v i * f j)) (ofR_fit (hs _ _ (by omega))) (ofR_fit (qlen_mul k1 (hg j) (by omega))) (by omega) (by omega)
    rwa [ofR_val, ofR_val] at this
  have w1 : ∀ i, i < N → ∀ k, Q.dpt (Q.dvq d f N v i) f (Q.dvs d f N v (N - (i + 1))) i (d + 1) k = Q.dvs d f N v (N - i) k := fun i hi k => by
    have := Q.dpt_all hf.fin (N := N) (p := v) (t := N - (i + 1)) k
    rw [show N - 1 - (N - (i + 1)) = i by omega, show N - (i + 1) + 1 = N - i by omega] at this
    rw [← this]
    unfold Q.dvq
    rw [show N - 1 - i = N - (i + 1) by omega]
  have w2 : ∀ i, i < N → Q.dvq d f N v i = 0 → ∀ k, Q.dvs d f N v (N - (i + 1)) k = Q.dvs d f N v (N - i) k := fun i hi e k => by
    rw [← w1 i hi k, Q.dpt_none e]
  have w3 := fun i j k => Q.dpt_next (Q.dvq d f N v i) f (Q.dvs d f N v (N - (i + 1))) i j k
  have w4 := fun i k => Q.dpt_zero (Q.dvq d f N v i) f (Q.dvs d f N v (N - (i + 1))) i k
  have e1 : ∀ i, i < N → Q.dvs d f N v (N - (i + 1)) (i + d) = Q.dvq d f N v i := fun i hi => by
    unfold Q.dvq
    rw [show N - 1 - i = N - (i + 1) by omega]
  have hT1 := qtrim_nql (n := N) (v := Q.dvq d f N v) (by omega)
  rw [show nql N (Q.dvq d f N v) = ql N (qm (Q.dvq d f N v) 0) by rw [qm_zero]] at hT1
  have hT2 := qtrim_nql (n := n) (v := Q.dvs d f N v N) (by omega)
  have hT2 : FnOK Tryz.prog true 75 [.c (.row 4 n fun x j => qlF (fun x => ofR (Q.dvs d f N v (N - 0) x)) (0 + x) j)] (.c (nql (Q.tq (Q.dvs d f N v N) n) (Q.dvs d f N v N))) := arg_ok hT2 fun D w vs h => by
    match vs, h with
    | [v1], ⟨h1, _⟩ => exact ⟨subRowG rfl (fun x j hx hj => by rw [Nat.zero_add]; rfl) D w v1 h1, trivial⟩
  clear hs hg ht hv0
  refine fn_okS (E := E1) E1_ok Tryz.func191 rfl (by kernel_rfl) ?_
  refine swp_seq0 E1_ok mixed (by kernel_rfl) ?_
  conv => whnf
  refine swp_seq0 E1_ok mixed (by kernel_rfl) ?_
  conv => whnf
  refine .inl ⟨[], true, ?_⟩
  conv => whnf
  refine ⟨0, phB, [.c (nql n v)], _, _, _, hN0, rfl, .inr (Nat.le_refl 2), fun h => absurd h (by decide), fun h => absurd h (by decide), fun F' hF' => ?_, rfl, rfl, ?_⟩
  · simp at hF'; subst hF'; exact qB_plain _ _
  conv => whnf
  refine swp_seq0 E1_ok mixed (by kernel_rfl) ?_
  conv => whnf
  refine bneg (show decide ((n : Int) < ((d + 1 : Nat) : Int)) = false from decide_eq_false (by omega)) ?_
  conv => whnf
  refine swp_seq0 E1_ok mixed (by kernel_rfl) ?_
  conv => whnf
  refine ⟨i64 (by omega) (by omega), ?_⟩
  conv => whnf
  refine ⟨i64 (by omega) (by omega), ?_⟩
  conv => whnf
  refine ⟨by omega, Int.le_refl _, by omega, by show (64 : Int) * ((n : Int) - ((d + 1 : Nat) : Int) + 1) ≤ 281474976710656; omega, ?_⟩
  have eN : ((n : Int) - ((d + 1 : Nat) : Int) + 1).toNat = N := by omega
  conv => whnf
  refine swp_seqS ?_
  refine swp_seq0 E1_ok mixed (by kernel_rfl) ?_
  conv => whnf
  refine ⟨i64 (by show _ ≤ (((n : Int) - ((d + 1 : Nat) : Int) + 1).toNat : Int) - 1; omega) (by show (((n : Int) - ((d + 1 : Nat) : Int) + 1).toNat : Int) - 1 < _; omega), ?_⟩
  conv => whnf
  refine swp_block ?_
  refine swp_loop (fun k : Nat => gst [(1, .c (nql (d + 1) f)), (4, .c (.gs 1 0)), (5, .c (.sl 0 0 4 0 n)), (6, .c (.int .i64 ((k : Int) - 1)))] [gqr n fun x => ofR (Q.dvs d f N v (N - k) x), gqr N (qm (Q.dvq d f N v) k)]) (fun k => k) (fun k => k ≤ N) N ?_ (Nat.le_refl _) fun k hk => ?_
  · refine Weak.gen [some 1, some 2] rfl ⟨⟨_, rfl, rfl, rfl, rfl, rfl, fun x j hx hj => regE (qlF_eq (c := fun x => ofR (v x)) (e := fun x => ofR (Q.dvs d f N v (N - N) x)) (i := x) (k := x) (congrArg ofR (by rw [Nat.sub_self]; rfl))) (ql_clos (c := fun x => ofR (Q.dvs d f N v (N - N) x)) x j)⟩, ⟨_, rfl, rfl, rfl, eN, rfl, fun x j hx hj => ?_⟩, trivial⟩ ⟨.inl ⟨_, _, rfl, rfl, fun _ _ _ _ => rfl⟩, ⟨_, rfl, rfl, rfl⟩, ⟨_, _, rfl, rfl, rfl, rfl⟩, ⟨_, rfl, by show (((n : Int) - ((d + 1 : Nat) : Int) + 1).toNat : Int) - 1 = (N : Int) - 1; rw [eN]⟩, trivial⟩
    show regC 0 _ _ (qlF (qm (Q.dvq d f N v) N) x j) _
    have hx : x < N := hx
    unfold qlF
    rw [qm_top hx]
    match j, hj with
    | 0, _ => exact ⟨_, rfl, rfl⟩
    | 1, _ => exact .inr (.inl ⟨rfl, rfl⟩)
    | 2, _ => exact ⟨_, rfl, rfl⟩
    | 3, _ => exact .inr (.inl ⟨rfl, rfl⟩)
  refine swp_seq0 E1_ok mixed (by kernel_rfl) ?_
  conv => whnf
  refine bcase (fun (h : decide ((0 : Int) ≤ (k : Int) - 1) = true) => ?_) fun (h : decide ((0 : Int) ≤ (k : Int) - 1) = false) => ?_
  · have h := of_decide_eq_true h
    obtain ⟨i, hi0⟩ : ∃ i, i = ((k : Int) - 1).toNat := ⟨_, rfl⟩
    have hk1 : k = i + 1 := by omega
    subst hk1
    have hiN : i < N := by omega
    have ei : (((i + 1 : Nat) : Int) - 1).toNat = i := by omega
    have g1 : FnOK Tryz.prog true 69 [.g (nq (Q.dvs d f N v (N - (i + 1)) (0 + (((i + 1 : Nat) : Int) - 1 + ((d + 1 : Nat) : Int) - 1).toNat))), .g (nq (f (((d + 1 : Nat) : Int) - 1).toNat))] (.t2 (.g (nq (Q.dvq d f N v i))) (.c (.int .i64 0))) := by
      have := q1 (N - (i + 1)) (i + d) (by omega)
      rw [e1 i hiN] at this
      rw [show 0 + (((i + 1 : Nat) : Int) - 1 + ((d + 1 : Nat) : Int) - 1).toNat = i + d by omega, show (((d + 1 : Nat) : Int) - 1).toNat = d by omega, e1 i hiN]
      exact this
    have g2 : FnOK Tryz.prog true 198 [.g (rr (qm (Q.dvq d f N v) i (((i + 1 : Nat) : Int) - 1).toNat))] (.c (.bool (decide (Q.dvq d f N v i = 0)))) := by
      rw [ei, qm_self]
      exact z1 i hiN
    conv => whnf
    refine swp_seqS (swp_block ?_)
    refine swp_seq E1_ok mixed (by kernel_rfl) ?_
    conv => whnf
    refine ⟨i64 (by omega) (by omega), ?_⟩
    conv => whnf
    refine ⟨i64 (by omega) (by omega), ?_⟩
    conv => whnf
    refine ⟨by omega, ?_⟩
    conv => whnf
    refine ⟨by show ((i + 1 : Nat) : Int) - 1 + ((d + 1 : Nat) : Int) - 1 < (n : Int); omega, ?_⟩
    conv => whnf
    refine ⟨i64 (by omega) (by omega), ?_⟩
    conv => whnf
    refine ⟨by omega, by omega, ?_⟩
    conv => whnf
    refine ⟨_, g1, ?_⟩
    conv => whnf
    refine ⟨by omega, by show ((i + 1 : Nat) : Int) - 1 < (N : Int); omega, ?_⟩
    conv => whnf
    refine ⟨gst [(1, .c (nql (d + 1) f)), (4, .c (.gs 1 0)), (5, .c (.sl 0 0 4 0 n)), (6, .c (.int .i64 (((i + 1 : Nat) : Int) - 1)))] [gqr n fun x => ofR (Q.dvs d f N v (N - (i + 1)) x), gqr N (qm (Q.dvq d f N v) i)], Weak.gen [some 0, some 1] rfl ⟨⟨_, rfl, rfl, rfl, rfl, rfl, fun x j hx hj => regE rfl (ql_clos (c := fun x => ofR (Q.dvs d f N v (N - (i + 1)) x)) x j)⟩, ⟨_, rfl, rfl, rfl, rfl, rfl, fun x j hx hj => regE ?_ (ql_clos (c := qm (Q.dvq d f N v) i) x j)⟩, trivial⟩ ⟨.inl ⟨_, _, rfl, rfl, fun _ _ _ _ => rfl⟩, ⟨_, rfl, rfl, rfl⟩, ⟨_, _, rfl, rfl, rfl, rfl⟩, ⟨_, rfl, rfl⟩, trivial⟩, ?_⟩
    · exact updG (sz := 4) (g := fun x => rr (qm (Q.dvq d f N v) (i + 1) x)) (g' := fun x => rr (qm (Q.dvq d f N v) i x)) (l := nq (Q.dvq d f N v i)) rfl hj (by rw [ei]; exact qm_next _ i x)
    refine swp_seq0 E1_ok mixed (by kernel_rfl) ?_
    conv => whnf
    refine ⟨by omega, by show ((i + 1 : Nat) : Int) - 1 < (N : Int); omega, ?_⟩
    conv => whnf
    refine ⟨_, g2, ?_⟩
    conv => whnf
    refine bcase (fun (h3 : decide (Q.dvq d f N v i = 0) = true) => ?_) fun (h3 : decide (Q.dvq d f N v i = 0) = false) => ?_
    · have y3 := w2 i hiN (of_decide_eq_true h3)
      conv => whnf
      refine swp_of E1_ok mixed (by kernel_rfl) ?_
      conv => whnf
      refine ⟨i64 (by omega) (by omega), ?_⟩
      conv => whnf
      exact ⟨i, by omega, Weak.gen [some 0, some 1] rfl ⟨⟨_, rfl, rfl, rfl, rfl, rfl, fun x j hx hj => regE (qlF_eq (c := fun x => ofR (Q.dvs d f N v (N - (i + 1)) x)) (e := fun x => ofR (Q.dvs d f N v (N - i) x)) (i := x) (k := x) (congrArg ofR (y3 x))) (ql_clos (c := fun x => ofR (Q.dvs d f N v (N - i) x)) x j)⟩, ⟨_, rfl, rfl, rfl, rfl, rfl, fun x j hx hj => regE rfl (ql_clos (c := qm (Q.dvq d f N v) i) x j)⟩, trivial⟩ ⟨.inl ⟨_, _, rfl, rfl, fun _ _ _ _ => rfl⟩, ⟨_, rfl, rfl, rfl⟩, ⟨_, _, rfl, rfl, rfl, rfl⟩, ⟨_, rfl, by omega⟩, trivial⟩, by omega⟩
    · conv => whnf
      refine swp_of E1_ok mixed (by kernel_rfl) ?_
      conv => whnf
      refine loop_ints (fun j : Nat => gst [(1, .c (nql (d + 1) f)), (4, .c (.gs 1 0)), (5, .c (.sl 0 0 4 0 n)), (6, .c (.int .i64 (((i + 1 : Nat) : Int) - 1))), (57, .c (nql (d + 1) f)), (58, .c (.int .i64 ((d + 1 : Nat) : Int))), (59, .c (.int .i64 j))] [gqr n fun x => ofR (Q.dpt (Q.dvq d f N v i) f (Q.dvs d f N v (N - (i + 1))) i j x), gqr N (qm (Q.dvq d f N v) i)]) (fun j => d + 1 - j) (fun j => j ≤ d + 1) 0 rfl (Weak.gen [some 0, some 1] rfl ⟨⟨_, rfl, rfl, rfl, rfl, rfl, fun x j hx hj => regE (qlF_eq (c := fun x => ofR (Q.dvs d f N v (N - (i + 1)) x)) (e := fun x => ofR (Q.dpt (Q.dvq d f N v i) f (Q.dvs d f N v (N - (i + 1))) i 0 x)) (i := x) (k := x) (congrArg ofR (w4 i x).symm)) (ql_clos (c := fun x => ofR (Q.dpt (Q.dvq d f N v i) f (Q.dvs d f N v (N - (i + 1))) i 0 x)) x j)⟩, ⟨_, rfl, rfl, rfl, rfl, rfl, fun x j hx hj => regE rfl (ql_clos (c := qm (Q.dvq d f N v) i) x j)⟩, trivial⟩ ⟨.inl ⟨_, _, rfl, rfl, fun _ _ _ _ => rfl⟩, ⟨_, rfl, rfl, rfl⟩, ⟨_, _, rfl, rfl, rfl, rfl⟩, ⟨_, rfl, rfl⟩, .inl ⟨_, _, rfl, rfl, fun _ _ _ _ => rfl⟩, ⟨_, rfl, rfl⟩, ⟨_, rfl, rfl⟩, trivial⟩) (Nat.zero_le _) fun j hj => ?_
      have u1 : FnOK Tryz.prog true 67 [.g (rr (qm (Q.dvq d f N v) i (((i + 1 : Nat) : Int) - 1).toNat)), .g (nq (f j))] (.g (nq (Q.dvq d f N v i * f j))) := by
        rw [ei]
        exact p1 i j hiN
      have ej : 0 + (((i + 1 : Nat) : Int) - 1 + (j : Int)).toNat = i + j := by omega
      have u2 : FnOK Tryz.prog true 111 [.g (nq (Q.dpt (Q.dvq d f N v i) f (Q.dvs d f N v (N - (i + 1))) i j (0 + (((i + 1 : Nat) : Int) - 1 + (j : Int)).toNat))), .g (nq (Q.dvq d f N v i * f j))] (.g (nq (Q.dvs d f N v (N - (i + 1)) (i + j) - Q.dvq d f N v i * f j))) := by
        rw [ej]
        exact s1 i j hiN
      have u3 := w3 i j
      have u4 := w1 i hiN
      conv => whnf
      refine bcase (fun (h4 : decide ((j : Int) < ((d + 1 : Nat) : Int)) = true) => ?_) fun (h4 : decide ((j : Int) < ((d + 1 : Nat) : Int)) = false) => ?_
      · have h4 := of_decide_eq_true h4
        conv => whnf
        refine ⟨by omega, by omega, ?_⟩
        conv => whnf
        refine ⟨i64 (by omega) (by omega), ?_⟩
        conv => whnf
        refine ⟨i64 (by omega) (by omega), ?_⟩
        conv => whnf
        refine ⟨by omega, ?_⟩
        conv => whnf
        refine ⟨by show ((i + 1 : Nat) : Int) - 1 + (j : Int) < (n : Int); omega, ?_⟩
        conv => whnf
        refine ⟨by omega, by show ((i + 1 : Nat) : Int) - 1 < (N : Int); omega, ?_⟩
        conv => whnf
        refine ⟨_, u1, ?_⟩
        conv => whnf
        refine ⟨_, u2, ?_⟩
        conv => whnf
        refine ⟨by omega, ?_⟩
        conv => whnf
        refine ⟨by show ((i + 1 : Nat) : Int) - 1 + (j : Int) < (n : Int); omega, ?_⟩
        conv => whnf
        refine ⟨i64 (by omega) (by omega), ?_⟩
        conv => whnf
        refine ⟨j + 1, by omega, Weak.gen [some 0, some 1] rfl ⟨⟨_, rfl, rfl, rfl, rfl, rfl, fun x y hx hy => regE ?_ (ql_clos (c := fun x => ofR (Q.dpt (Q.dvq d f N v i) f (Q.dvs d f N v (N - (i + 1))) i (j + 1) x)) x y)⟩, ⟨_, rfl, rfl, rfl, rfl, rfl, fun x j hx hj => regE rfl (ql_clos (c := qm (Q.dvq d f N v) i) x j)⟩, trivial⟩ ⟨.inl ⟨_, _, rfl, rfl, fun _ _ _ _ => rfl⟩, ⟨_, rfl, rfl, rfl⟩, ⟨_, _, rfl, rfl, rfl, rfl⟩, ⟨_, rfl, rfl⟩, .inl ⟨_, _, rfl, rfl, fun _ _ _ _ => rfl⟩, ⟨_, rfl, rfl⟩, ⟨_, rfl, rfl⟩, trivial⟩, by omega⟩
        exact updG (sz := 4) (g := fun x => nq (Q.dpt (Q.dvq d f N v i) f (Q.dvs d f N v (N - (i + 1))) i j x)) (g' := fun x => nq (Q.dpt (Q.dvq d f N v i) f (Q.dvs d f N v (N - (i + 1))) i (j + 1) x)) (l := nq (Q.dvs d f N v (N - (i + 1)) (i + j) - Q.dvq d f N v i * f j)) rfl hy (by
          show (if x = 0 + (((i + 1 : Nat) : Int) - 1 + (j : Int)).toNat then nq (Q.dvs d f N v (N - (i + 1)) (i + j) - Q.dvq d f N v i * f j) else nq (Q.dpt (Q.dvq d f N v i) f (Q.dvs d f N v (N - (i + 1))) i j x)) = nq (Q.dpt (Q.dvq d f N v i) f (Q.dvs d f N v (N - (i + 1))) i (j + 1) x)
          rw [ej, ← u3 x]
          split <;> rfl)
      · have h4 := of_decide_eq_false h4
        have e : j = d + 1 := by omega
        conv => whnf
        refine swp_of E1_ok mixed (by kernel_rfl) ?_
        conv => whnf
        refine ⟨i64 (by omega) (by omega), ?_⟩
        conv => whnf
        exact ⟨i, by omega, Weak.gen [some 0, some 1] rfl ⟨⟨_, rfl, rfl, rfl, rfl, rfl, fun x y hx hy => regE (qlF_eq (c := fun x => ofR (Q.dpt (Q.dvq d f N v i) f (Q.dvs d f N v (N - (i + 1))) i j x)) (e := fun x => ofR (Q.dvs d f N v (N - i) x)) (i := x) (k := x) (congrArg ofR (by rw [e]; exact u4 x))) (ql_clos (c := fun x => ofR (Q.dvs d f N v (N - i) x)) x y)⟩, ⟨_, rfl, rfl, rfl, rfl, rfl, fun x j hx hj => regE rfl (ql_clos (c := qm (Q.dvq d f N v) i) x j)⟩, trivial⟩ ⟨.inl ⟨_, _, rfl, rfl, fun _ _ _ _ => rfl⟩, ⟨_, rfl, rfl, rfl⟩, ⟨_, _, rfl, rfl, rfl, rfl⟩, ⟨_, rfl, by omega⟩, trivial⟩, by omega⟩
  · have h := of_decide_eq_false h
    have hk0 : k = 0 := by omega
    subst hk0
    conv => whnf
    refine swp_of E1_ok mixed (by kernel_rfl) ?_
    conv => whnf
    refine .inr ⟨fun x j _ _ => ql_clos (c := qm (Q.dvq d f N v) 0) x j, ?_⟩
    conv => whnf
    refine ⟨_, hT1, ?_⟩
    conv => whnf
    refine .inr ⟨fun x j _ _ => ql_clos (c := fun x => ofR (Q.dvs d f N v (N - 0) x)) x j, ?_⟩
    conv => whnf
    refine ⟨_, hT2, ?_⟩
    conv => whnf
    exact ⟨rfl, Sub.refl _⟩
end Rf
end Go.Proofs.YtigciplaoikcfaaGreat
/- Quotient and remainder by a monic polynomial in the program. -/
namespace Go.Proofs.YtigciplaoikcfaaGreat
open Go.RowKit
theorem FnOK.res {P : Program} {r : Bool} {f : FuncId} {args : List V} {X X' : V} (h : FnOK P r f args X) (s : Sub X X') : FnOK P r f args X' :=
  ⟨h.1, fun D w vs a b c => (h.2 D w vs a b c).mono fun _ _ ⟨v, e, hv, hb⟩ => ⟨v, e, s _ _ _ hv, hb⟩⟩
/-- The rest, of a list of length m. -/
def Q.rst (d : Nat) (f p : Nat → Rat) (m : Nat) : Nat → Rat := Q.dvs d f (m - d) p (m - d)
theorem Q.rst_rm {d m : Nat} {f p : Nat → Rat} (hf : Q.Mon d f) (hp : Q.Fin m p) : Q.Rm d f p (Q.rst d f p m) :=
  Q.dvs_rm hf (hp.mono (by omega))
theorem Q.rst_len {d m : Nat} {f p : Nat → Rat} (hf : Q.Mon d f) (hp : Q.Fin m p) : Q.tq (Q.rst d f p m) m = Q.tq (Q.rst d f p m) d := by
  have h := (Q.rst_rm hf hp).1
  refine Q.tq_eq ?_ h
  rcases Nat.lt_or_ge m d with c | c
  · have e : Q.rst d f p m = p := by
      unfold Q.rst
      rw [show m - d = 0 by omega]; rfl
    rw [e]; exact hp
  · exact h.mono c
namespace Rf
set_option maxHeartbeats 4000000 in
theorem qpdiv_short {n d : Nat} {v f : Nat → Rat} {K : Nat} (ht : Q.tq v n = n) (hnd : n ≤ d) (hn : n ≤ 4096) (hs : ∀ k, qlen (v k) ≤ K) (hL : K + 3 ≤ LIM) : FnOK Tryz.prog true 191 [.c (nql n v), .c (nql (d + 1) f)] (.t2 (.c .nil) (.c (nql n v))) := by
  have h1 := qnorm_ok (q := fun i => ofR (v i)) (v := v) (n := n) (funext fun i => ofR_val _) (by omega) (fun i _ => ofR_fit (hs i)) hL
  rw [ht] at h1
  refine fn_ok (E := E1) E1_ok Tryz.func191 rfl mixed (by kernel_rfl) (by kernel_rfl) ?_
  conv => whnf
  refine .inr ?_
  conv => whnf
  refine ⟨_, h1, ?_⟩
  conv => whnf
  refine bpos (show decide ((n : Int) < ((d + 1 : Nat) : Int)) = true from decide_eq_true (by omega)) ?_
  conv => whnf
  exact ⟨rfl, Sub.refl _⟩
theorem qnorm_x {n : Nat} {q : Nat → RawR} {L : Nat} {p : Nat → Rat} (hp : Q.qx n (fun i => (q i).val) = p) (hn : n ≤ 1048576) (hq : ∀ i, i < n → (q i).Fit L) (hL : L + 3 ≤ LIM) : FnOK Tryz.prog true 29 [.c (ql n q)] (.c (nql (Q.tq p n) p)) := by
  have h := qnorm_ok (q := q) rfl hn hq hL
  have e : Q.tq (fun i => (q i).val) n = Q.tq p n := Q.tq_congr fun i hi => by rw [← hp, Q.qx_lt hi]
  rw [e] at h
  refine h.res (subRowG rfl fun i j hi hj => qlF_eq (c := fun i => ofR (q i).val) (e := fun i => ofR (p i)) (i := i) (k := i) (congrArg ofR ?_))
  have := Q.tq_le p n
  rw [← hp, Q.qx_lt (by omega)]
/-- The division: some quotient, and the rest. -/
theorem qpdivide_ok {n d : Nat} {p f : Nat → Rat} {K : Nat} (hf : Q.Mon d f) (ht : Q.tq p n = n) (hn : n ≤ 4096) (hs : ∀ t k, t ≤ n - d → qlen (Q.dvs d f (n - d) p t k) ≤ K) (hg : ∀ j, qlen (f j) ≤ K) (h1 : 1 ≤ K) (hL : K + K + K + 16 ≤ LIM) : ∃ Y : Cell, (Y = .nil ∨ ∃ N u, Y = nql N u) ∧ FnOK Tryz.prog true 191 [.c (nql n p), .c (nql (d + 1) f)] (.t2 (.c Y) (.c (nql (Q.tq (Q.rst d f p n) n) (Q.rst d f p n)))) := by
  rcases Nat.lt_or_ge d n with c | c
  · exact ⟨_, .inr ⟨_, _, rfl⟩, qpdiv_long hf ht c hn hs hg h1 hL⟩
  · refine ⟨.nil, .inl rfl, ?_⟩
    have e : Q.rst d f p n = p := by
      unfold Q.rst
      rw [show n - d = 0 by omega]; rfl
    rw [e, ht]
    exact qpdiv_short ht c hn (fun k => hs 0 k (Nat.zero_le _)) (by omega)
set_option maxHeartbeats 4000000 in
theorem qpdivmod_ok {n d : Nat} {q : Nat → RawR} {p f : Nat → Rat} {L K : Nat} (hp : Q.qx n (fun i => (q i).val) = p) (hf : Q.Mon d f) (hn : n ≤ 4096) (hd : d ≤ 4096) (hq : ∀ i, i < n → (q i).Fit L) (hs : ∀ t k, t ≤ Q.tq p n - d → qlen (Q.dvs d f (Q.tq p n - d) p t k) ≤ K) (hg : ∀ j, qlen (f j) ≤ K) (h1 : 1 ≤ K) (hL : L + 3 ≤ LIM) (hL2 : K + K + K + 16 ≤ LIM) : ∃ Y : Cell, (Y = .nil ∨ ∃ N u, Y = nql N u) ∧ FnOK Tryz.prog true 177 [.c (ql n q), .c (nql (d + 1) f)] (.t3 (.c Y) (.c (nql (Q.tq (Q.rst d f p (Q.tq p n)) d) (Q.rst d f p (Q.tq p n)))) (.c (.int .i64 0))) := by
  have n1 := qnorm_x hp (by omega) hq hL
  have n2 := qnorm_ok (q := fun i => ofR (f i)) (v := f) (n := d + 1) (funext fun i => ofR_val _) (by omega) (fun i _ => ofR_fit (hg i)) (by omega)
  rw [Q.tq_self (n := d + 1) (v := f) fun k hk => by
    rw [show k = d by omega, hf.top]; decide] at n2
  have fp : Q.Fin n p := by rw [← hp]; exact Q.qx_fin _ _
  have hm := Q.tq_le p n
  have ht : Q.tq p (Q.tq p n) = Q.tq p n := Q.tq_self fun k hk => Q.tq_top hk
  obtain ⟨Y, hY, n3⟩ := qpdivide_ok hf ht (by omega) hs hg h1 hL2
  rw [Q.rst_len hf (Q.tq_fin fp)] at n3
  refine ⟨Y, hY, ?_⟩
  generalize Q.rst d f p (Q.tq p n) = r at *
  generalize Q.tq r d = T at *
  generalize Q.tq p n = m at *
  clear hs hg hq hp fp ht
  rcases hY with rfl | ⟨N', u, rfl⟩
  all_goals
    refine fn_ok (E := E1) E1_ok Tryz.func177 rfl mixed (by kernel_rfl) (by kernel_rfl) ?_
    conv => whnf
    refine .inr ?_
    conv => whnf
    refine ⟨_, n2, ?_⟩
    conv => whnf
    refine .inr ?_
    conv => whnf
    refine ⟨_, n1, ?_⟩
    conv => whnf
    refine ⟨_, n3, ?_⟩
    conv => whnf
    exact ⟨rfl, Sub.refl _⟩
end Rf
end Go.Proofs.YtigciplaoikcfaaGreat
/- Fractions with a common denominator, and how long they are. -/
namespace Go.Proofs.YtigciplaoikcfaaGreat
/-- Over the denominator D, the numerator at most B. -/
def Bd (D B : Nat) (x : Rat) : Prop := ∃ z : Int, x * ((D : Int) : Rat) = (z : Rat) ∧ z.natAbs ≤ B
theorem Bd.zero (D B : Nat) : Bd D B 0 := ⟨0, by rw [Rat.zero_mul]; rfl, Nat.zero_le _⟩
theorem Bd.mono {D B B' : Nat} {x : Rat} (h : Bd D B x) (hB : B ≤ B') : Bd D B' x := by
  obtain ⟨z, h1, h2⟩ := h
  exact ⟨z, h1, by omega⟩
theorem Bd.add {D B B' : Nat} {x y : Rat} (h : Bd D B x) (h' : Bd D B' y) : Bd D (B + B') (x + y) := by
  obtain ⟨z, h1, h2⟩ := h
  obtain ⟨w, g1, g2⟩ := h'
  refine ⟨z + w, by rw [Rat.add_mul, h1, g1, Rat.intCast_add], ?_⟩
  have := Int.natAbs_add_le z w
  omega
theorem Bd.neg {D B : Nat} {x : Rat} (h : Bd D B x) : Bd D B (-x) := by
  obtain ⟨z, h1, h2⟩ := h
  exact ⟨-z, by rw [Rat.neg_mul, h1, Rat.intCast_neg], by omega⟩
theorem Bd.sub {D B B' : Nat} {x y : Rat} (h : Bd D B x) (h' : Bd D B' y) : Bd D (B + B') (x - y) := by
  rw [Rat.sub_eq_add_neg]
  exact h.add h'.neg
theorem Bd.mul {D D' B B' : Nat} {x y : Rat} (h : Bd D B x) (h' : Bd D' B' y) : Bd (D * D') (B * B') (x * y) := by
  obtain ⟨z, h1, h2⟩ := h
  obtain ⟨w, g1, g2⟩ := h'
  refine ⟨z * w, ?_, ?_⟩
  · rw [Rat.intCast_mul, ← h1, ← g1, Int.natCast_mul, Rat.intCast_mul]
    grind
  · rw [Int.natAbs_mul]
    exact Nat.mul_le_mul h2 g2
theorem Bd.scale {D B : Nat} (e : Nat) {x : Rat} (h : Bd D B x) : Bd (D * e) (B * e) x := by
  obtain ⟨z, h1, h2⟩ := h
  refine ⟨z * (e : Int), ?_, ?_⟩
  · rw [Rat.intCast_mul, ← h1, Int.natCast_mul, Rat.intCast_mul]
    grind
  · rw [Int.natAbs_mul]
    exact Nat.mul_le_mul h2 (Nat.le_refl _)
theorem Bd.len {D B L : Nat} {x : Rat} (h : Bd D B x) (h0 : 0 < D) (hD : D < Dg.B ^ L) (hB : B < Dg.B ^ L) (h1 : 1 ≤ L) : qlen x ≤ L := by
  obtain ⟨z, e1, e2⟩ := h
  have hx : x = ratio z (D : Int) := by
    unfold ratio
    rw [← e1]
    have : ((D : Int) : Rat) ≠ 0 := fun e => by
      have e : ((D : Int) : Rat) = ((0 : Int) : Rat) := e
      have := Rat.intCast_inj.1 e
      omega
    grind
  rw [hx]
  exact qlen_ratio (zlen_le (by omega)) (zlen_le (by simpa using hD)) h1
theorem Bd.int (x : Int) : Bd 1 x.natAbs (x : Rat) := ⟨x, by rw [show (((1 : Nat) : Int) : Rat) = 1 from rfl, Rat.mul_one], Nat.le_refl _⟩
theorem Bd.self (x : Rat) : Bd x.den x.num.natAbs x := ⟨x.num, by
  have h : ((x.num : Int) : Rat) / ((x.den : Int) : Rat) = x := ratio_num_den x
  have hd : ((x.den : Int) : Rat) ≠ 0 := fun e => by
    have e : ((x.den : Int) : Rat) = ((0 : Int) : Rat) := e
    have := Rat.intCast_inj.1 e
    have := x.den_pos
    omega
  grind, Nat.le_refl _⟩
namespace Q
theorem dvs_bd {d N D B C : Nat} {f p : Nat → Rat} (hp : ∀ k, Bd D B (p k)) (hf : ∀ j, Bd 1 C (f j)) : ∀ t k, Bd D (B * (1 + C) ^ t) (dvs d f N p t k)
  | 0, k => by rw [Nat.pow_zero, Nat.mul_one]; exact hp k
  | t + 1, k => by
    have h := dvs_bd (d := d) (N := N) hp hf t
    show Bd D _ (dvs d f N p t k - _)
    rw [Nat.pow_succ, ← Nat.mul_assoc, Nat.mul_add, Nat.mul_one]
    refine (h k).sub ?_
    split
    · have := (h (N - 1 - t + d)).mul (hf (k - (N - 1 - t)))
      rwa [Nat.mul_one] at this
    · exact Bd.zero _ _
theorem mu_bd {D D' B B' : Nat} {F G : Nat → Rat} (hF : ∀ k, Bd D B (F k)) (hG : ∀ k, Bd D' B' (G k)) : ∀ i k, Bd (D * D') (i * (B * B')) (mu F G i k)
  | 0, _ => Bd.zero _ _
  | i + 1, k => by
    have h := mu_bd hF hG i k
    show Bd _ _ (mu F G i k + (if i ≤ k then F i * G (k - i) else 0))
    rw [Nat.add_mul, Nat.one_mul]
    refine h.add ?_
    split
    · exact (hF i).mul (hG (k - i))
    · exact Bd.zero _ _
theorem cf_bd {n D D' B B' : Nat} {F G : Nat → Rat} (hn : Fin n F) (hF : ∀ k, Bd D B (F k)) (hG : ∀ k, Bd D' B' (G k)) (k : Nat) : Bd (D * D') (n * (B * B')) (cf F G k) := by
  rw [← mu_all hn]
  exact mu_bd hF hG n k
/-- Fractions over one denominator. -/
theorem common (M : Nat) (hM : 0 < M) (v : Nat → Rat) : ∀ n, (∀ i, i < n → (v i).den ≤ M ∧ (v i).num.natAbs ≤ M) → ∃ D, 0 < D ∧ D ≤ M ^ n ∧ ∀ i, i < n → Bd D (M * M ^ n) (v i)
  | 0, _ => ⟨1, by decide, Nat.le_refl _, fun i hi => absurd hi (Nat.not_lt_zero i)⟩
  | n + 1, h => by
    obtain ⟨D, h1, h2, h3⟩ := common M hM v n fun i hi => h i (by omega)
    obtain ⟨g1, g2⟩ := h n (by omega)
    have g0 := (v n).den_pos
    refine ⟨D * (v n).den, Nat.mul_pos h1 g0, ?_, fun i hi => ?_⟩
    · rw [Nat.pow_succ]; exact Nat.mul_le_mul h2 g1
    · rcases Nat.lt_or_ge i n with c | c
      · refine ((h3 i c).scale (v n).den).mono ?_
        rw [Nat.pow_succ, ← Nat.mul_assoc]
        exact Nat.mul_le_mul (Nat.le_refl _) g1
      · rw [show i = n by omega]
        have := (Bd.self (v n)).scale D
        rw [Nat.mul_comm D]
        refine this.mono ?_
        refine Nat.mul_le_mul g2 (Nat.le_trans h2 ?_)
        exact Nat.pow_le_pow_right hM (by omega)
end Q
end Go.Proofs.YtigciplaoikcfaaGreat
