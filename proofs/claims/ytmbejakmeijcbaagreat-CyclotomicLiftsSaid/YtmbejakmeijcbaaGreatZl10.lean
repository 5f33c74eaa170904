/- Division of lists of fractions by a monic one, in the program. -/
import Derived.Test.YtmbejakmeijcbaaGreatZl9
namespace Go.Proofs.YtmbejakmeijcbaaGreat
open Go.RowKit
namespace Rf
def qm (u : Nat → Rat) (k x : Nat) : RawR := if k ≤ x then ofR (u x) else zraw
theorem qm_self (u : Nat → Rat) (k : Nat) : qm u k k = ofR (u k) := if_pos (Nat.le_refl k)
theorem qm_next (u : Nat → Rat) (i x : Nat) : (if x = i then nq (u i) else rr (qm u (i + 1) x)) = rr (qm u i x) := by
 unfold qm
 by_cases e : x = i
 ·rw [if_pos e, if_pos (by omega), e]
 ·rw [if_neg e]
  by_cases e2 : i + 1 ≤ x
  ·rw [if_pos e2, if_pos (by omega)]
  ·rw [if_neg e2, if_neg (by omega)]
theorem qm_zero (u : Nat → Rat) : qm u 0 = fun x => ofR (u x) := funext fun x => if_pos (Nat.zero_le x)
theorem qm_top {u : Nat → Rat} {N x : Nat} (h : x < N) : qm u N x = zraw := if_neg (by omega)
theorem div_one_ok (x : Rat) {L : Nat} (h : qlen x ≤ L) (hL : L + 8 ≤ LIM) : FnOK Tryz.prog true 204 [.g (nq x), .g (nq 1)] (.t2 (.g (nq x)) (.c (.int .i64 0))) := by
 have := qquo_ok (q := ofR x) (p := ofR 1) (ofR_fit h) (ofR_fit (L := 1) (by decide)) (by omega) (by rw [ofR_val]; decide)
 rw [ofR_val, ofR_val, show x / 1 = x by grind] at this
 exact this
set_option maxHeartbeats 16000000 in
theorem qpdiv_long {n d : Nat} {v f : Nat → Rat} {K : Nat} (hf : Q.Mon d f) (ht : Q.tq v n = n) (hnd : d < n) (hn : n ≤ 4096) (hs : ∀ t k, t ≤ n - d → qlen (Q.dvs d f (n - d) v t k) ≤ K) (hg : ∀ j, qlen (f j) ≤ K) (h1 : 1 ≤ K) (hL : K + K + K + 16 ≤ LIM) : FnOK Tryz.prog true 184 [.c (nql n v), .c (nql (d + 1) f)] (.t2 (.c (nql (Q.tq (Q.dvq d f (n - d) v) (n - d)) (Q.dvq d f (n - d) v))) (.c (nql (Q.tq (Q.dvs d f (n - d) v (n - d)) n) (Q.dvs d f (n - d) v (n - d))))) := by
 have hv0 : ∀ i, i < n → (ofR (v i)).Fit K := fun i _ => ofR_fit (hs 0 i (Nat.zero_le _))
 have hN0 := qnorm_m (q := fun i => ofR (v i)) (v := v) (n := n) (funext fun i => ofR_val _) (by omega) hv0 (by omega)
 rw [ht] at hN0
 obtain ⟨N, hN⟩ : ∃ N, N = n - d := ⟨_, rfl⟩
 rw [← hN] at hs ⊢
 have ft := hf.top
 have q1 : ∀ t k, t ≤ N → FnOK Tryz.prog true 204 [.g (nq (Q.dvs d f N v t k)), .g (nq (f d))] (.t2 (.g (nq (Q.dvs d f N v t k))) (.c (.int .i64 0))) := fun t k h => by
  rw [ft]
  exact div_one_ok _ (hs t k h) (by omega)
 have z1 : ∀ i, i < N → FnOK Tryz.prog true 191 [.g (nq (Q.dvq d f N v i))] (.c (.bool (decide (Q.dvq d f N v i = 0)))) := fun i hi => qzero_nq _ (hs (N - 1 - i) (i + d) (by omega)) (by omega)
 have p1 : ∀ i j, i < N → FnOK Tryz.prog true 192 [.g (rr (qm (Q.dvq d f N v) i i)), .g (nq (f j))] (.g (nq (Q.dvq d f N v i * f j))) := fun i j hi => by
  rw [qm_self]
  have := qmul_ok (q := ofR (Q.dvq d f N v i)) (p := ofR (f j)) (ofR_fit (hs (N - 1 - i) (i + d) (by omega))) (ofR_fit (hg j)) (by omega)
  rwa [ofR_val, ofR_val] at this
 have s1 : ∀ i j, i < N → FnOK Tryz.prog true 110 [.g (nq (Q.dpt (Q.dvq d f N v i) f (Q.dvs d f N v (N - (i + 1))) i j (i + j))), .g (nq (Q.dvq d f N v i * f j))] (.g (nq (Q.dvs d f N v (N - (i + 1)) (i + j) - Q.dvq d f N v i * f j))) := fun i j hi => by
  rw [Q.dpt_old]
  have k1 : qlen (Q.dvq d f N v i) ≤ K := hs (N - 1 - i) (i + d) (by omega)
  have := qsub_ok (q := ofR (Q.dvs d f N v (N - (i + 1)) (i + j))) (p := ofR (Q.dvq d f N v i * f j)) (ofR_fit (hs _ _ (by omega))) (ofR_fit (qlen_mul k1 (hg j) (by omega))) (by omega) (by omega)
  rwa [ofR_val, ofR_val] at this
 have w1 : ∀ i, i < N → ∀ k, Q.dpt (Q.dvq d f N v i) f (Q.dvs d f N v (N - (i + 1))) i (d + 1) k = Q.dvs d f N v (N - i) k := fun i hi k => by
  have := Q.dpt_all hf.fin (N := N) (p := v) (t := N - (i + 1)) k
  rw [show N - 1 - (N - (i + 1)) = i by omega, show N - (i + 1) + 1 = N - i by omega] at this
  rw [← this]
  unfold Q.dvq
  rw [show N - 1 - i = N - (i + 1) by omega]
 have w2 : ∀ i, i < N → Q.dvq d f N v i = 0 → ∀ k, Q.dvs d f N v (N - (i + 1)) k = Q.dvs d f N v (N - i) k := fun i hi e k => by
  rw [← w1 i hi k, Q.dpt_none e]
 have w3 := fun i j k => Q.dpt_next (Q.dvq d f N v i) f (Q.dvs d f N v (N - (i + 1))) i j k
 have w4 := fun i k => Q.dpt_zero (Q.dvq d f N v i) f (Q.dvs d f N v (N - (i + 1))) i k
 have e1 : ∀ i, i < N → Q.dvs d f N v (N - (i + 1)) (i + d) = Q.dvq d f N v i := fun i hi => by
  unfold Q.dvq
  rw [show N - 1 - i = N - (i + 1) by omega]
 have hT1 := qtrim_nql (n := N) (v := Q.dvq d f N v) (by omega)
 rw [show nql N (Q.dvq d f N v) = ql N (qm (Q.dvq d f N v) 0) by rw [qm_zero]] at hT1
 have hT2 := qtrim_nql (n := n) (v := Q.dvs d f N v N) (by omega)
 have hT2 : FnOK Tryz.prog true 160 [.c (.row 4 n fun x j => qlF (fun x => ofR (Q.dvs d f N v (N - 0) x)) (0 + x) j)] (.c (nql (Q.tq (Q.dvs d f N v N) n) (Q.dvs d f N v N))) := arg_ok hT2 fun D w vs h => by
  match vs, h with
  | [v1], ⟨h1, _⟩ => exact ⟨subRowG rfl (fun x j hx hj => by rw [Nat.zero_add]; rfl) D w v1 h1, trivial⟩
 clear hs hg ht hv0
 refine fn_okS (E := E1) E1_ok Tryz.func184 rfl (by kernel_rfl) ?_
 refine swp_seq0 E1_ok mixed (by kernel_rfl) ?_
 conv => whnf
 refine swp_seq0 E1_ok mixed (by kernel_rfl) ?_
 conv => whnf
 refine .inl ⟨[], true, ?_⟩
 conv => whnf
 refine ⟨0, phB, [.c (nql n v)], _, _, _, hN0, rfl, .inr (Nat.le_refl 2), fun h => absurd h (by decide), fun h => absurd h (by decide), fun F' hF' => ?_, rfl, rfl, ?_⟩
 ·simp at hF'; subst hF'; exact qB_plain _ _
 conv => whnf
 refine swp_seq0 E1_ok mixed (by kernel_rfl) ?_
 conv => whnf
 refine bneg (show decide ((n : Int) < ((d + 1 : Nat) : Int)) = false from decide_eq_false (by omega)) ?_
 conv => whnf
 refine swp_seq0 E1_ok mixed (by kernel_rfl) ?_
 conv => whnf
 refine ⟨i64 (by omega) (by omega), ?_⟩
 conv => whnf
 refine ⟨i64 (by omega) (by omega), ?_⟩
 conv => whnf
 refine ⟨by omega, Int.le_refl _, by omega, by show (64 : Int) * ((n : Int) - ((d + 1 : Nat) : Int) + 1) ≤ 281474976710656; omega, ?_⟩
 have eN : ((n : Int) - ((d + 1 : Nat) : Int) + 1).toNat = N := by omega
 conv => whnf
 refine swp_seqS ?_
 refine swp_seq0 E1_ok mixed (by kernel_rfl) ?_
 conv => whnf
 refine ⟨i64 (by show _ ≤ (((n : Int) - ((d + 1 : Nat) : Int) + 1).toNat : Int) - 1; omega) (by show (((n : Int) - ((d + 1 : Nat) : Int) + 1).toNat : Int) - 1 < _; omega), ?_⟩
 conv => whnf
 refine swp_block ?_
 refine swp_loop (fun k : Nat => gst [(1, .c (nql (d + 1) f)), (4, .c (.gs 1 0)), (5, .c (.sl 0 0 4 0 n)), (6, .c (.int .i64 ((k : Int) - 1)))] [gqr n fun x => ofR (Q.dvs d f N v (N - k) x), gqr N (qm (Q.dvq d f N v) k)]) (fun k => k) (fun k => k ≤ N) N ?_ (Nat.le_refl _) fun k hk => ?_
 ·refine Weak.gen [some 1, some 2] rfl ⟨⟨_, rfl, rfl, rfl, rfl, rfl, fun x j hx hj => regE (qlF_eq (c := fun x => ofR (v x)) (e := fun x => ofR (Q.dvs d f N v (N - N) x)) (i := x) (k := x) (congrArg ofR (by rw [Nat.sub_self]; rfl))) (ql_clos (c := fun x => ofR (Q.dvs d f N v (N - N) x)) x j)⟩, ⟨_, rfl, rfl, rfl, eN, rfl, fun x j hx hj => ?_⟩, trivial⟩ ⟨.inl ⟨_, _, rfl, rfl, fun _ _ _ _ => rfl⟩, ⟨_, rfl, rfl, rfl⟩, ⟨_, _, rfl, rfl, rfl, rfl⟩, ⟨_, rfl, by show (((n : Int) - ((d + 1 : Nat) : Int) + 1).toNat : Int) - 1 = (N : Int) - 1; rw [eN]⟩, trivial⟩
  show regC 0 _ _ (qlF (qm (Q.dvq d f N v) N) x j) _
  have hx : x < N := hx
  unfold qlF
  rw [qm_top hx]
  match j, hj with
  | 0, _ => exact ⟨_, rfl, rfl⟩
  | 1, _ => exact .inr (.inl ⟨rfl, rfl⟩)
  | 2, _ => exact ⟨_, rfl, rfl⟩
  | 3, _ => exact .inr (.inl ⟨rfl, rfl⟩)
 refine swp_seq0 E1_ok mixed (by kernel_rfl) ?_
 conv => whnf
 refine bcase (fun (h : decide ((0 : Int) ≤ (k : Int) - 1) = true) => ?_) fun (h : decide ((0 : Int) ≤ (k : Int) - 1) = false) => ?_
 ·have h := of_decide_eq_true h
  obtain ⟨i, hi0⟩ : ∃ i, i = ((k : Int) - 1).toNat := ⟨_, rfl⟩
  have hk1 : k = i + 1 := by omega
  subst hk1
  have hiN : i < N := by omega
  have ei : (((i + 1 : Nat) : Int) - 1).toNat = i := by omega
  have g1 : FnOK Tryz.prog true 204 [.g (nq (Q.dvs d f N v (N - (i + 1)) (0 + (((i + 1 : Nat) : Int) - 1 + ((d + 1 : Nat) : Int) - 1).toNat))), .g (nq (f (((d + 1 : Nat) : Int) - 1).toNat))] (.t2 (.g (nq (Q.dvq d f N v i))) (.c (.int .i64 0))) := by
   have := q1 (N - (i + 1)) (i + d) (by omega)
   rw [e1 i hiN] at this
   rw [show 0 + (((i + 1 : Nat) : Int) - 1 + ((d + 1 : Nat) : Int) - 1).toNat = i + d by omega, show (((d + 1 : Nat) : Int) - 1).toNat = d by omega, e1 i hiN]
   exact this
  have g2 : FnOK Tryz.prog true 191 [.g (rr (qm (Q.dvq d f N v) i (((i + 1 : Nat) : Int) - 1).toNat))] (.c (.bool (decide (Q.dvq d f N v i = 0)))) := by
   rw [ei, qm_self]
   exact z1 i hiN
  conv => whnf
  refine swp_seqS (swp_block ?_)
  refine swp_seq E1_ok mixed (by kernel_rfl) ?_
  conv => whnf
  refine ⟨i64 (by omega) (by omega), ?_⟩
  conv => whnf
  refine ⟨i64 (by omega) (by omega), ?_⟩
  conv => whnf
  refine ⟨by omega, ?_⟩
  conv => whnf
  refine ⟨by show ((i + 1 : Nat) : Int) - 1 + ((d + 1 : Nat) : Int) - 1 < (n : Int); omega, ?_⟩
  conv => whnf
  refine ⟨i64 (by omega) (by omega), ?_⟩
  conv => whnf
  refine ⟨by omega, by omega, ?_⟩
  conv => whnf
  refine ⟨_, g1, ?_⟩
  conv => whnf
  refine ⟨by omega, by show ((i + 1 : Nat) : Int) - 1 < (N : Int); omega, ?_⟩
  conv => whnf
  refine ⟨gst [(1, .c (nql (d + 1) f)), (4, .c (.gs 1 0)), (5, .c (.sl 0 0 4 0 n)), (6, .c (.int .i64 (((i + 1 : Nat) : Int) - 1)))] [gqr n fun x => ofR (Q.dvs d f N v (N - (i + 1)) x), gqr N (qm (Q.dvq d f N v) i)], Weak.gen [some 0, some 1] rfl ⟨⟨_, rfl, rfl, rfl, rfl, rfl, fun x j hx hj => regE rfl (ql_clos (c := fun x => ofR (Q.dvs d f N v (N - (i + 1)) x)) x j)⟩, ⟨_, rfl, rfl, rfl, rfl, rfl, fun x j hx hj => regE ?_ (ql_clos (c := qm (Q.dvq d f N v) i) x j)⟩, trivial⟩ ⟨.inl ⟨_, _, rfl, rfl, fun _ _ _ _ => rfl⟩, ⟨_, rfl, rfl, rfl⟩, ⟨_, _, rfl, rfl, rfl, rfl⟩, ⟨_, rfl, rfl⟩, trivial⟩, ?_⟩
  ·exact updG (sz := 4) (g := fun x => rr (qm (Q.dvq d f N v) (i + 1) x)) (g' := fun x => rr (qm (Q.dvq d f N v) i x)) (l := nq (Q.dvq d f N v i)) rfl hj (by rw [ei]; exact qm_next _ i x)
  refine swp_seq0 E1_ok mixed (by kernel_rfl) ?_
  conv => whnf
  refine ⟨by omega, by show ((i + 1 : Nat) : Int) - 1 < (N : Int); omega, ?_⟩
  conv => whnf
  refine ⟨_, g2, ?_⟩
  conv => whnf
  refine bcase (fun (h3 : decide (Q.dvq d f N v i = 0) = true) => ?_) fun (h3 : decide (Q.dvq d f N v i = 0) = false) => ?_
  ·have y3 := w2 i hiN (of_decide_eq_true h3)
   conv => whnf
   refine swp_of E1_ok mixed (by kernel_rfl) ?_
   conv => whnf
   refine ⟨i64 (by omega) (by omega), ?_⟩
   conv => whnf
   exact ⟨i, by omega, Weak.gen [some 0, some 1] rfl ⟨⟨_, rfl, rfl, rfl, rfl, rfl, fun x j hx hj => regE (qlF_eq (c := fun x => ofR (Q.dvs d f N v (N - (i + 1)) x)) (e := fun x => ofR (Q.dvs d f N v (N - i) x)) (i := x) (k := x) (congrArg ofR (y3 x))) (ql_clos (c := fun x => ofR (Q.dvs d f N v (N - i) x)) x j)⟩, ⟨_, rfl, rfl, rfl, rfl, rfl, fun x j hx hj => regE rfl (ql_clos (c := qm (Q.dvq d f N v) i) x j)⟩, trivial⟩ ⟨.inl ⟨_, _, rfl, rfl, fun _ _ _ _ => rfl⟩, ⟨_, rfl, rfl, rfl⟩, ⟨_, _, rfl, rfl, rfl, rfl⟩, ⟨_, rfl, by omega⟩, trivial⟩, by omega⟩
  ·conv => whnf
   refine swp_of E1_ok mixed (by kernel_rfl) ?_
   conv => whnf
   refine loop_ints (fun j : Nat => gst [(1, .c (nql (d + 1) f)), (4, .c (.gs 1 0)), (5, .c (.sl 0 0 4 0 n)), (6, .c (.int .i64 (((i + 1 : Nat) : Int) - 1))), (57, .c (nql (d + 1) f)), (58, .c (.int .i64 ((d + 1 : Nat) : Int))), (59, .c (.int .i64 j))] [gqr n fun x => ofR (Q.dpt (Q.dvq d f N v i) f (Q.dvs d f N v (N - (i + 1))) i j x), gqr N (qm (Q.dvq d f N v) i)]) (fun j => d + 1 - j) (fun j => j ≤ d + 1) 0 rfl (Weak.gen [some 0, some 1] rfl ⟨⟨_, rfl, rfl, rfl, rfl, rfl, fun x j hx hj => regE (qlF_eq (c := fun x => ofR (Q.dvs d f N v (N - (i + 1)) x)) (e := fun x => ofR (Q.dpt (Q.dvq d f N v i) f (Q.dvs d f N v (N - (i + 1))) i 0 x)) (i := x) (k := x) (congrArg ofR (w4 i x).symm)) (ql_clos (c := fun x => ofR (Q.dpt (Q.dvq d f N v i) f (Q.dvs d f N v (N - (i + 1))) i 0 x)) x j)⟩, ⟨_, rfl, rfl, rfl, rfl, rfl, fun x j hx hj => regE rfl (ql_clos (c := qm (Q.dvq d f N v) i) x j)⟩, trivial⟩ ⟨.inl ⟨_, _, rfl, rfl, fun _ _ _ _ => rfl⟩, ⟨_, rfl, rfl, rfl⟩, ⟨_, _, rfl, rfl, rfl, rfl⟩, ⟨_, rfl, rfl⟩, .inl ⟨_, _, rfl, rfl, fun _ _ _ _ => rfl⟩, ⟨_, rfl, rfl⟩, ⟨_, rfl, rfl⟩, trivial⟩) (Nat.zero_le _) fun j hj => ?_
   have u1 : FnOK Tryz.prog true 192 [.g (rr (qm (Q.dvq d f N v) i (((i + 1 : Nat) : Int) - 1).toNat)), .g (nq (f j))] (.g (nq (Q.dvq d f N v i * f j))) := by
    rw [ei]
    exact p1 i j hiN
   have ej : 0 + (((i + 1 : Nat) : Int) - 1 + (j : Int)).toNat = i + j := by omega
   have u2 : FnOK Tryz.prog true 110 [.g (nq (Q.dpt (Q.dvq d f N v i) f (Q.dvs d f N v (N - (i + 1))) i j (0 + (((i + 1 : Nat) : Int) - 1 + (j : Int)).toNat))), .g (nq (Q.dvq d f N v i * f j))] (.g (nq (Q.dvs d f N v (N - (i + 1)) (i + j) - Q.dvq d f N v i * f j))) := by
    rw [ej]
    exact s1 i j hiN
   have u3 := w3 i j
   have u4 := w1 i hiN
   conv => whnf
   refine bcase (fun (h4 : decide ((j : Int) < ((d + 1 : Nat) : Int)) = true) => ?_) fun (h4 : decide ((j : Int) < ((d + 1 : Nat) : Int)) = false) => ?_
   ·have h4 := of_decide_eq_true h4
    conv => whnf
    refine ⟨by omega, by omega, ?_⟩
    conv => whnf
    refine ⟨i64 (by omega) (by omega), ?_⟩
    conv => whnf
    refine ⟨i64 (by omega) (by omega), ?_⟩
    conv => whnf
    refine ⟨by omega, ?_⟩
    conv => whnf
    refine ⟨by show ((i + 1 : Nat) : Int) - 1 + (j : Int) < (n : Int); omega, ?_⟩
    conv => whnf
    refine ⟨by omega, by show ((i + 1 : Nat) : Int) - 1 < (N : Int); omega, ?_⟩
    conv => whnf
    refine ⟨_, u1, ?_⟩
    conv => whnf
    refine ⟨_, u2, ?_⟩
    conv => whnf
    refine ⟨by omega, ?_⟩
    conv => whnf
    refine ⟨by show ((i + 1 : Nat) : Int) - 1 + (j : Int) < (n : Int); omega, ?_⟩
    conv => whnf
    refine ⟨i64 (by omega) (by omega), ?_⟩
    conv => whnf
    refine ⟨j + 1, by omega, Weak.gen [some 0, some 1] rfl ⟨⟨_, rfl, rfl, rfl, rfl, rfl, fun x y hx hy => regE ?_ (ql_clos (c := fun x => ofR (Q.dpt (Q.dvq d f N v i) f (Q.dvs d f N v (N - (i + 1))) i (j + 1) x)) x y)⟩, ⟨_, rfl, rfl, rfl, rfl, rfl, fun x j hx hj => regE rfl (ql_clos (c := qm (Q.dvq d f N v) i) x j)⟩, trivial⟩ ⟨.inl ⟨_, _, rfl, rfl, fun _ _ _ _ => rfl⟩, ⟨_, rfl, rfl, rfl⟩, ⟨_, _, rfl, rfl, rfl, rfl⟩, ⟨_, rfl, rfl⟩, .inl ⟨_, _, rfl, rfl, fun _ _ _ _ => rfl⟩, ⟨_, rfl, rfl⟩, ⟨_, rfl, rfl⟩, trivial⟩, by omega⟩
    exact updG (sz := 4) (g := fun x => nq (Q.dpt (Q.dvq d f N v i) f (Q.dvs d f N v (N - (i + 1))) i j x)) (g' := fun x => nq (Q.dpt (Q.dvq d f N v i) f (Q.dvs d f N v (N - (i + 1))) i (j + 1) x)) (l := nq (Q.dvs d f N v (N - (i + 1)) (i + j) - Q.dvq d f N v i * f j)) rfl hy (by
     show (if x = 0 + (((i + 1 : Nat) : Int) - 1 + (j : Int)).toNat then nq (Q.dvs d f N v (N - (i + 1)) (i + j) - Q.dvq d f N v i * f j) else nq (Q.dpt (Q.dvq d f N v i) f (Q.dvs d f N v (N - (i + 1))) i j x)) = nq (Q.dpt (Q.dvq d f N v i) f (Q.dvs d f N v (N - (i + 1))) i (j + 1) x)
     rw [ej, ← u3 x]
     split <;> rfl)
   ·have h4 := of_decide_eq_false h4
    have e : j = d + 1 := by omega
    conv => whnf
    refine swp_of E1_ok mixed (by kernel_rfl) ?_
    conv => whnf
    refine ⟨i64 (by omega) (by omega), ?_⟩
    conv => whnf
    exact ⟨i, by omega, Weak.gen [some 0, some 1] rfl ⟨⟨_, rfl, rfl, rfl, rfl, rfl, fun x y hx hy => regE (qlF_eq (c := fun x => ofR (Q.dpt (Q.dvq d f N v i) f (Q.dvs d f N v (N - (i + 1))) i j x)) (e := fun x => ofR (Q.dvs d f N v (N - i) x)) (i := x) (k := x) (congrArg ofR (by rw [e]; exact u4 x))) (ql_clos (c := fun x => ofR (Q.dvs d f N v (N - i) x)) x y)⟩, ⟨_, rfl, rfl, rfl, rfl, rfl, fun x j hx hj => regE rfl (ql_clos (c := qm (Q.dvq d f N v) i) x j)⟩, trivial⟩ ⟨.inl ⟨_, _, rfl, rfl, fun _ _ _ _ => rfl⟩, ⟨_, rfl, rfl, rfl⟩, ⟨_, _, rfl, rfl, rfl, rfl⟩, ⟨_, rfl, by omega⟩, trivial⟩, by omega⟩
 ·have h := of_decide_eq_false h
  have hk0 : k = 0 := by omega
  subst hk0
  conv => whnf
  refine swp_of E1_ok mixed (by kernel_rfl) ?_
  conv => whnf
  refine .inr ⟨fun x j _ _ => ql_clos (c := qm (Q.dvq d f N v) 0) x j, ?_⟩
  conv => whnf
  refine ⟨_, hT1, ?_⟩
  conv => whnf
  refine .inr ⟨fun x j _ _ => ql_clos (c := fun x => ofR (Q.dvs d f N v (N - 0) x)) x j, ?_⟩
  conv => whnf
  refine ⟨_, hT2, ?_⟩
  conv => whnf
  exact ⟨rfl, Sub.refl _⟩
end Rf
end Go.Proofs.YtmbejakmeijcbaaGreat
/- Quotient and remainder by a monic polynomial in the program. -/
namespace Go.Proofs.YtmbejakmeijcbaaGreat
open Go.RowKit
theorem FnOK.res {P : Program} {r : Bool} {f : FuncId} {args : List V} {X X' : V} (h : FnOK P r f args X) (s : Sub X X') : FnOK P r f args X' :=
 ⟨h.1, fun D w vs a b c => (h.2 D w vs a b c).mono fun _ _ ⟨v, e, hv, hb⟩ => ⟨v, e, s _ _ _ hv, hb⟩⟩
def Q.rst (d : Nat) (f p : Nat → Rat) (m : Nat) : Nat → Rat := Q.dvs d f (m - d) p (m - d)
theorem Q.rst_rm {d m : Nat} {f p : Nat → Rat} (hf : Q.Mon d f) (hp : Q.Fin m p) : Q.Rm d f p (Q.rst d f p m) :=
 Q.dvs_rm hf (hp.mono (by omega))
theorem Q.rst_len {d m : Nat} {f p : Nat → Rat} (hf : Q.Mon d f) (hp : Q.Fin m p) : Q.tq (Q.rst d f p m) m = Q.tq (Q.rst d f p m) d := by
 have h := (Q.rst_rm hf hp).1
 refine Q.tq_eq ?_ h
 rcases Nat.lt_or_ge m d with c | c
 ·have e : Q.rst d f p m = p := by
   unfold Q.rst
   rw [show m - d = 0 by omega]; rfl
  rw [e]; exact hp
 ·exact h.mono c
namespace Rf
set_option maxHeartbeats 4000000 in
theorem qpdiv_short {n d : Nat} {v f : Nat → Rat} {K : Nat} (ht : Q.tq v n = n) (hnd : n ≤ d) (hn : n ≤ 4096) (hs : ∀ k, qlen (v k) ≤ K) (hL : K + 3 ≤ LIM) : FnOK Tryz.prog true 184 [.c (nql n v), .c (nql (d + 1) f)] (.t2 (.c .nil) (.c (nql n v))) := by
 have h1 := qnorm_ok (q := fun i => ofR (v i)) (v := v) (n := n) (funext fun i => ofR_val _) (by omega) (fun i _ => ofR_fit (hs i)) hL
 rw [ht] at h1
 refine fn_ok (E := E1) E1_ok Tryz.func184 rfl mixed (by kernel_rfl) (by kernel_rfl) ?_
 conv => whnf
 refine .inr ?_
 conv => whnf
 refine ⟨_, h1, ?_⟩
 conv => whnf
 refine bpos (show decide ((n : Int) < ((d + 1 : Nat) : Int)) = true from decide_eq_true (by omega)) ?_
 conv => whnf
 exact ⟨rfl, Sub.refl _⟩
theorem qnorm_x {n : Nat} {q : Nat → RawR} {L : Nat} {p : Nat → Rat} (hp : Q.qx n (fun i => (q i).val) = p) (hn : n ≤ 1048576) (hq : ∀ i, i < n → (q i).Fit L) (hL : L + 3 ≤ LIM) : FnOK Tryz.prog true 183 [.c (ql n q)] (.c (nql (Q.tq p n) p)) := by
 have h := qnorm_ok (q := q) rfl hn hq hL
 have e : Q.tq (fun i => (q i).val) n = Q.tq p n := Q.tq_congr fun i hi => by rw [← hp, Q.qx_lt hi]
 rw [e] at h
 refine h.res (subRowG rfl fun i j hi hj => qlF_eq (c := fun i => ofR (q i).val) (e := fun i => ofR (p i)) (i := i) (k := i) (congrArg ofR ?_))
 have := Q.tq_le p n
 rw [← hp, Q.qx_lt (by omega)]
theorem qpdivide_ok {n d : Nat} {p f : Nat → Rat} {K : Nat} (hf : Q.Mon d f) (ht : Q.tq p n = n) (hn : n ≤ 4096) (hs : ∀ t k, t ≤ n - d → qlen (Q.dvs d f (n - d) p t k) ≤ K) (hg : ∀ j, qlen (f j) ≤ K) (h1 : 1 ≤ K) (hL : K + K + K + 16 ≤ LIM) : ∃ Y : Cell, (Y = .nil ∨ ∃ N u, Y = nql N u) ∧ FnOK Tryz.prog true 184 [.c (nql n p), .c (nql (d + 1) f)] (.t2 (.c Y) (.c (nql (Q.tq (Q.rst d f p n) n) (Q.rst d f p n)))) := by
 rcases Nat.lt_or_ge d n with c | c
 ·exact ⟨_, .inr ⟨_, _, rfl⟩, qpdiv_long hf ht c hn hs hg h1 hL⟩
 ·refine ⟨.nil, .inl rfl, ?_⟩
  have e : Q.rst d f p n = p := by
   unfold Q.rst
   rw [show n - d = 0 by omega]; rfl
  rw [e, ht]
  exact qpdiv_short ht c hn (fun k => hs 0 k (Nat.zero_le _)) (by omega)
set_option maxHeartbeats 4000000 in
theorem qpdivmod_ok {n d : Nat} {q : Nat → RawR} {p f : Nat → Rat} {L K : Nat} (hp : Q.qx n (fun i => (q i).val) = p) (hf : Q.Mon d f) (hn : n ≤ 4096) (hd : d ≤ 4096) (hq : ∀ i, i < n → (q i).Fit L) (hs : ∀ t k, t ≤ Q.tq p n - d → qlen (Q.dvs d f (Q.tq p n - d) p t k) ≤ K) (hg : ∀ j, qlen (f j) ≤ K) (h1 : 1 ≤ K) (hL : L + 3 ≤ LIM) (hL2 : K + K + K + 16 ≤ LIM) : ∃ Y : Cell, (Y = .nil ∨ ∃ N u, Y = nql N u) ∧ FnOK Tryz.prog true 144 [.c (ql n q), .c (nql (d + 1) f)] (.t3 (.c Y) (.c (nql (Q.tq (Q.rst d f p (Q.tq p n)) d) (Q.rst d f p (Q.tq p n)))) (.c (.int .i64 0))) := by
 have n1 := qnorm_x hp (by omega) hq hL
 have n2 := qnorm_ok (q := fun i => ofR (f i)) (v := f) (n := d + 1) (funext fun i => ofR_val _) (by omega) (fun i _ => ofR_fit (hg i)) (by omega)
 rw [Q.tq_self (n := d + 1) (v := f) fun k hk => by
  rw [show k = d by omega, hf.top]; decide] at n2
 have fp : Q.Fin n p := by rw [← hp]; exact Q.qx_fin _ _
 have hm := Q.tq_le p n
 have ht : Q.tq p (Q.tq p n) = Q.tq p n := Q.tq_self fun k hk => Q.tq_top hk
 obtain ⟨Y, hY, n3⟩ := qpdivide_ok hf ht (by omega) hs hg h1 hL2
 rw [Q.rst_len hf (Q.tq_fin fp)] at n3
 refine ⟨Y, hY, ?_⟩
 generalize Q.rst d f p (Q.tq p n) = r at *
 generalize Q.tq r d = T at *
 generalize Q.tq p n = m at *
 clear hs hg hq hp fp ht
 rcases hY with rfl | ⟨N', u, rfl⟩
 all_goals
  refine fn_ok (E := E1) E1_ok Tryz.func144 rfl mixed (by kernel_rfl) (by kernel_rfl) ?_
  conv => whnf
  refine .inr ?_
  conv => whnf
  refine ⟨_, n2, ?_⟩
  conv => whnf
  refine .inr ?_
  conv => whnf
  refine ⟨_, n1, ?_⟩
  conv => whnf
  refine ⟨_, n3, ?_⟩
  conv => whnf
  exact ⟨rfl, Sub.refl _⟩
end Rf
end Go.Proofs.YtmbejakmeijcbaaGreat
/- Fractions with a common denominator, and how long they are. -/
namespace Go.Proofs.YtmbejakmeijcbaaGreat
def Bd (D B : Nat) (x : Rat) : Prop := ∃ z : Int, x * ((D : Int) : Rat) = (z : Rat) ∧ z.natAbs ≤ B
theorem Bd.zero (D B : Nat) : Bd D B 0 := ⟨0, by rw [Rat.zero_mul]; rfl, Nat.zero_le _⟩
theorem Bd.mono {D B B' : Nat} {x : Rat} (h : Bd D B x) (hB : B ≤ B') : Bd D B' x := by
 obtain ⟨z, h1, h2⟩ := h
 exact ⟨z, h1, by omega⟩
theorem Bd.add {D B B' : Nat} {x y : Rat} (h : Bd D B x) (h' : Bd D B' y) : Bd D (B + B') (x + y) := by
 obtain ⟨z, h1, h2⟩ := h
 obtain ⟨w, g1, g2⟩ := h'
 refine ⟨z + w, by rw [Rat.add_mul, h1, g1, Rat.intCast_add], ?_⟩
 have := Int.natAbs_add_le z w
 omega
theorem Bd.neg {D B : Nat} {x : Rat} (h : Bd D B x) : Bd D B (-x) := by
 obtain ⟨z, h1, h2⟩ := h
 exact ⟨-z, by rw [Rat.neg_mul, h1, Rat.intCast_neg], by omega⟩
theorem Bd.sub {D B B' : Nat} {x y : Rat} (h : Bd D B x) (h' : Bd D B' y) : Bd D (B + B') (x - y) := by
 rw [Rat.sub_eq_add_neg]
 exact h.add h'.neg
theorem Bd.mul {D D' B B' : Nat} {x y : Rat} (h : Bd D B x) (h' : Bd D' B' y) : Bd (D * D') (B * B') (x * y) := by
 obtain ⟨z, h1, h2⟩ := h
 obtain ⟨w, g1, g2⟩ := h'
 refine ⟨z * w, ?_, ?_⟩
 ·rw [Rat.intCast_mul, ← h1, ← g1, Int.natCast_mul, Rat.intCast_mul]
  grind
 ·rw [Int.natAbs_mul]
  exact Nat.mul_le_mul h2 g2
theorem Bd.scale {D B : Nat} (e : Nat) {x : Rat} (h : Bd D B x) : Bd (D * e) (B * e) x := by
 obtain ⟨z, h1, h2⟩ := h
 refine ⟨z * (e : Int), ?_, ?_⟩
 ·rw [Rat.intCast_mul, ← h1, Int.natCast_mul, Rat.intCast_mul]
  grind
 ·rw [Int.natAbs_mul]
  exact Nat.mul_le_mul h2 (Nat.le_refl _)
theorem Bd.len {D B L : Nat} {x : Rat} (h : Bd D B x) (h0 : 0 < D) (hD : D < Dg.B ^ L) (hB : B < Dg.B ^ L) (h1 : 1 ≤ L) : qlen x ≤ L := by
 obtain ⟨z, e1, e2⟩ := h
 have hx : x = ratio z (D : Int) := by
  unfold ratio
  rw [← e1]
  have : ((D : Int) : Rat) ≠ 0 := fun e => by
   have e : ((D : Int) : Rat) = ((0 : Int) : Rat) := e
   have := Rat.intCast_inj.1 e
   omega
  grind
 rw [hx]
 exact qlen_ratio (zlen_le (by omega)) (zlen_le (by simpa using hD)) h1
theorem Bd.int (x : Int) : Bd 1 x.natAbs (x : Rat) := ⟨x, by rw [show (((1 : Nat) : Int) : Rat) = 1 from rfl, Rat.mul_one], Nat.le_refl _⟩
theorem Bd.self (x : Rat) : Bd x.den x.num.natAbs x := ⟨x.num, by
 have h : ((x.num : Int) : Rat) / ((x.den : Int) : Rat) = x := ratio_num_den x
 have hd : ((x.den : Int) : Rat) ≠ 0 := fun e => by
  have e : ((x.den : Int) : Rat) = ((0 : Int) : Rat) := e
  have := Rat.intCast_inj.1 e
  have := x.den_pos
  omega
 grind, Nat.le_refl _⟩
namespace Q
theorem dvs_bd {d N D B C : Nat} {f p : Nat → Rat} (hp : ∀ k, Bd D B (p k)) (hf : ∀ j, Bd 1 C (f j)) : ∀ t k, Bd D (B * (1 + C) ^ t) (dvs d f N p t k)
 | 0, k => by rw [Nat.pow_zero, Nat.mul_one]; exact hp k
 | t + 1, k => by
  have h := dvs_bd (d := d) (N := N) hp hf t
  show Bd D _ (dvs d f N p t k - _)
  rw [Nat.pow_succ, ← Nat.mul_assoc, Nat.mul_add, Nat.mul_one]
  refine (h k).sub ?_
  split
  ·have := (h (N - 1 - t + d)).mul (hf (k - (N - 1 - t)))
   rwa [Nat.mul_one] at this
  ·exact Bd.zero _ _
theorem mu_bd {D D' B B' : Nat} {F G : Nat → Rat} (hF : ∀ k, Bd D B (F k)) (hG : ∀ k, Bd D' B' (G k)) : ∀ i k, Bd (D * D') (i * (B * B')) (mu F G i k)
 | 0, _ => Bd.zero _ _
 | i + 1, k => by
  have h := mu_bd hF hG i k
  show Bd _ _ (mu F G i k + (if i ≤ k then F i * G (k - i) else 0))
  rw [Nat.add_mul, Nat.one_mul]
  refine h.add ?_
  split
  ·exact (hF i).mul (hG (k - i))
  ·exact Bd.zero _ _
theorem cf_bd {n D D' B B' : Nat} {F G : Nat → Rat} (hn : Fin n F) (hF : ∀ k, Bd D B (F k)) (hG : ∀ k, Bd D' B' (G k)) (k : Nat) : Bd (D * D') (n * (B * B')) (cf F G k) := by
 rw [← mu_all hn]
 exact mu_bd hF hG n k
theorem common (M : Nat) (hM : 0 < M) (v : Nat → Rat) : ∀ n, (∀ i, i < n → (v i).den ≤ M ∧ (v i).num.natAbs ≤ M) → ∃ D, 0 < D ∧ D ≤ M ^ n ∧ ∀ i, i < n → Bd D (M * M ^ n) (v i)
 | 0, _ => ⟨1, by decide, Nat.le_refl _, fun i hi => absurd hi (Nat.not_lt_zero i)⟩
 | n + 1, h => by
  obtain ⟨D, h1, h2, h3⟩ := common M hM v n fun i hi => h i (by omega)
  obtain ⟨g1, g2⟩ := h n (by omega)
  have g0 := (v n).den_pos
  refine ⟨D * (v n).den, Nat.mul_pos h1 g0, ?_, fun i hi => ?_⟩
  ·rw [Nat.pow_succ]; exact Nat.mul_le_mul h2 g1
  ·rcases Nat.lt_or_ge i n with c | c
   ·refine ((h3 i c).scale (v n).den).mono ?_
    rw [Nat.pow_succ, ← Nat.mul_assoc]
    exact Nat.mul_le_mul (Nat.le_refl _) g1
   ·rw [show i = n by omega]
    have := (Bd.self (v n)).scale D
    rw [Nat.mul_comm D]
    refine this.mono ?_
    refine Nat.mul_le_mul g2 (Nat.le_trans h2 ?_)
    exact Nat.pow_le_pow_right hM (by omega)
end Q
end Go.Proofs.YtmbejakmeijcbaaGreat
/- The ring of rests modulo a monic polynomial, and the matrices of its multiplications. No condition. -/
namespace Go.Proofs.YtmbejakmeijcbaaGreat
namespace Q
def xp (i k : Nat) : Rat := if k = i then 1 else 0
theorem xp_fin (i : Nat) : Fin (i + 1) (xp i) := fun k hk => if_neg (by omega)
theorem cf_xp (i : Nat) (f : Nat → Rat) (k : Nat) : cf (xp i) f k = if i ≤ k then f (k - i) else 0 := by
 have := cf_mono 1 i f k
 rw [show cf (xp i) f k = cf (fun j => if j = i then (1 : Rat) else 0) f k from rfl, this]
 split
 ·rw [Rat.one_mul]
 ·rfl
theorem xp_add (i j k : Nat) : cf (xp i) (xp j) k = xp (i + j) k := by
 rw [cf_xp]
 unfold xp
 by_cases h : i ≤ k
 ·rw [if_pos h]
  by_cases e : k = i + j
  ·rw [if_pos (by omega), if_pos e]
  ·rw [if_neg (by omega), if_neg e]
 ·rw [if_neg h, if_neg (by omega)]
theorem Rm.mul' {n m : Nat} {f p r g s : Nat → Rat} (h : Rm n f p r) (hg : Fin m g) (h' : Rm n f (cf g r) s) : Rm n f (cf g p) s := by
 have := h.mul hg (h'.congr fun k => cf_comm g r k)
 exact this.congr fun k => cf_comm p g k
theorem Rm.trans_eq {n : Nat} {f p r s : Nat → Rat} (h : Rm n f p r) (e : ∀ k, r k = s k) : Rm n f p s := by
 have : r = s := funext e
 rwa [← this]
theorem Rm.su {n : Nat} {f : Nat → Rat} {P R : Nat → Nat → Rat} (c : Nat → Rat) (h : ∀ k, Rm n f (P k) (R k)) : ∀ m, Rm n f (fun j => su (fun k => c k * P k j) m) fun j => su (fun k => c k * R k j) m
 | 0 => Rm.self fun _ _ => rfl
 | m + 1 => (Rm.su c h m).add ((h m).smul (c m))
structure Rws (n : Nat) (f A g : Nat → Rat) (a : Nat → Nat → Rat) : Prop where
 first : Rm n f A (a 0)
 next : ∀ i, Rm n f (cf (a i) g) (a (i + 1))
end Q
end Go.Proofs.YtmbejakmeijcbaaGreat
/- A well-formed number field opened; normal forms, sums and products of its elements. -/
namespace Go.Proofs.YtmbejakmeijcbaaGreat
open Go.RowKit
namespace Rf
abbrev ringL (d : Nat) (f : Nat → Rat) : List Cell := [nql (d + 1) f, .int .i64 (((d + 1 : Nat) : Int) - 1)]
set_option maxHeartbeats 4000000 in
theorem open_good {n d : Nat} {c : Nat → RawZ} {f : Nat → Rat} (hfv : (fun i => ((vz c i : Int) : Rat)) = f) (h : wl n c) (hd : tl (vz c) n = d + 1) (h1 : 1 ≤ d) (h2 : d ≤ 12) (h3 : vz c d = 1) : FnOK Tryz.prog true 89 [.g [zl n c]] (.t2 (.c (.xp 2 fun j => boxF (ringL d f) 0 (0 + j))) (.c (.int .i64 0))) := by
 have n1 := znormal_ok h
 have hw : wl (tl (vz c) n) fun i => ofZ (vz c i) := ⟨Nat.le_trans (tl_le _ _) h.1, fun i hi => wr_nz (Nat.le_trans (wr_len (h.2 i (Nat.lt_of_lt_of_le hi (tl_le _ _)))) (h.2 i (Nat.lt_of_lt_of_le hi (tl_le _ _))).2)⟩
 have e1 : vz (fun i => ofZ (vz c i)) = vz c := funext fun i => ofZ_val _
 have n2 := qpof_eq (v := f) (by rw [← hfv, e1]) hw
 rw [e1, tl_tl, hd] at n2
 rw [hd] at n1
 have n3 := qof_ok (n := 1) (by decide) (by decide)
 have n4 : FnOK Tryz.prog true 79 [.g (nq (f (((d + 1 : Nat) : Int) - 1).toNat)), .g (nq ((1 : Int) : Rat))] (.c (.int .i64 0)) := by
  have := qcmp_one (x := 1) (by decide)
  rw [show (((d + 1 : Nat) : Int) - 1).toNat = d by omega, ← hfv]
  show FnOK _ _ _ [.g (nq ((vz c d : Int) : Rat)), _] _
  rw [h3]
  exact this
 clear hfv h hd hw e1 h3
 generalize vz c = v at *
 refine fn_ok (E := E1) E1_ok Tryz.func89 rfl mixed (by kernel_rfl) (by kernel_rfl) ?_
 conv => whnf
 refine ⟨_, n1, ?_⟩
 conv => whnf
 refine ⟨_, n2, ?_⟩
 conv => whnf
 refine ⟨i64 (by omega) (by omega), ?_⟩
 conv => whnf
 refine bpos (gw_true.2 (show decide (((d + 1 : Nat) : Int) - 1 < 1) = false from decide_eq_false (by omega))) ?_
 conv => whnf
 refine bpos (gw_true.2 (show decide ((12 : Int) < ((d + 1 : Nat) : Int) - 1) = false from decide_eq_false (by omega))) ?_
 conv => whnf
 refine ⟨by omega, by omega, ?_⟩
 conv => whnf
 refine ⟨_, n3, ?_⟩
 conv => whnf
 refine ⟨_, n4, ?_⟩
 conv => whnf
 refine ⟨fun i j _ _ => box_clos (l := ringL d f) (i := i) (j := j) rfl, ?_⟩
 conv => whnf
 exact ⟨rfl, Sub.refl _⟩
abbrev ringP (d : Nat) (f : Nat → Rat) : V := .c (.xp 2 fun j => boxF (ringL d f) 0 (0 + j))
set_option maxHeartbeats 4000000 in
theorem rnormal_raw {n d : Nat} {q : Nat → RawR} {p f : Nat → Rat} {L K : Nat} (hp : Q.qx n (fun i => (q i).val) = p) (hf : Q.Mon d f) (hn : n ≤ 4096) (hd : d ≤ 4096) (hq : ∀ i, i < n → (q i).Fit L) (hs : ∀ t k, t ≤ Q.tq p n - d → qlen (Q.dvs d f (Q.tq p n - d) p t k) ≤ K) (hg : ∀ j, qlen (f j) ≤ K) (h1 : 1 ≤ K) (hL : L + 3 ≤ LIM) (hL2 : K + K + K + 16 ≤ LIM) : FnOK Tryz.prog true 108 [ringP d f, .c (ql n q)] (.c (nql (Q.tq (Q.rst d f p (Q.tq p n)) d) (Q.rst d f p (Q.tq p n)))) := by
 obtain ⟨Y, hY, n3⟩ := qpdivmod_ok hp hf hn hd hq hs hg h1 hL hL2
 clear hs hg hq hp hf
 generalize Q.rst d f p (Q.tq p n) = r at *
 generalize Q.tq r d = T at *
 rcases hY with rfl | ⟨N', u, rfl⟩
 all_goals
  refine fn_ok (E := E1) E1_ok Tryz.func108 rfl mixed (by kernel_rfl) (by kernel_rfl) ?_
  conv => whnf
  refine ⟨_, n3, ?_⟩
  conv => whnf
  exact ⟨rfl, Sub.refl _⟩
abbrev KD : Nat := 1048576
structure Fd (d C : Nat) (f : Nat → Rat) : Prop where
 mon : Q.Mon d f
 pos : 1 ≤ d
 low : d ≤ 12
 bd : ∀ j, Bd 1 C (f j)
 small : C < Dg.B ^ KD
theorem bd_fit {D B : Nat} {x : Rat} (h : Bd D B x) (h0 : 0 < D) (hD : D < Dg.B ^ KD) (hB : B < Dg.B ^ KD) : qlen x ≤ KD := h.len h0 hD hB (by decide)
theorem one_lt_kd : 1 < Dg.B ^ KD := Nat.lt_of_lt_of_le (show 1 < Dg.B ^ 1 by decide) (Nat.pow_le_pow_right (by decide) (by decide))
theorem rnormal_ok {n d D B C : Nat} {q : Nat → RawR} {p f : Nat → Rat} (hF : Fd d C f) (hp : Q.qx n (fun i => (q i).val) = p) (hn : n ≤ 64) (hq : ∀ i, i < n → (q i).Fit KD) (h0 : 0 < D) (hD : D < Dg.B ^ KD) (hb : ∀ k, Bd D B (p k)) (hB : B * (1 + C) ^ n < Dg.B ^ KD) : ∃ r, Q.Rm d f p r ∧ (∀ k, Bd D (B * (1 + C) ^ n) (r k)) ∧ FnOK Tryz.prog true 108 [ringP d f, .c (ql n q)] (.c (nql (Q.tq r d) r)) := by
 have fp : Q.Fin n p := by rw [← hp]; exact Q.qx_fin _ _
 have hm := Q.tq_le p n
 have hst : ∀ t k, t ≤ Q.tq p n - d → Bd D (B * (1 + C) ^ n) (Q.dvs d f (Q.tq p n - d) p t k) := fun t k ht => (Q.dvs_bd hb hF.bd t k).mono (Nat.mul_le_mul_left _ (Nat.pow_le_pow_right (by omega) (by omega)))
 have hlow := hF.low
 exact ⟨Q.rst d f p (Q.tq p n), Q.rst_rm hF.mon (Q.tq_fin fp), fun k => hst _ k (Nat.le_refl _), rnormal_raw hp hF.mon (by omega) (by omega) hq (fun t k ht => bd_fit (hst t k ht) h0 hD hB) (fun j => bd_fit (hF.bd j) (by decide) one_lt_kd hF.small) (by decide) (by decide) (by decide)⟩
theorem rnormal_n {n d D B C : Nat} {p f : Nat → Rat} (hF : Fd d C f) (fp : Q.Fin n p) (hn : n ≤ 64) (h0 : 0 < D) (hD : D < Dg.B ^ KD) (hb : ∀ k, Bd D B (p k)) (hB : B * (1 + C) ^ n < Dg.B ^ KD) : ∃ r, Q.Rm d f p r ∧ (∀ k, Bd D (B * (1 + C) ^ n) (r k)) ∧ FnOK Tryz.prog true 108 [ringP d f, .c (nql n p)] (.c (nql (Q.tq r d) r)) := by
 have hB1 : B < Dg.B ^ KD := Nat.lt_of_le_of_lt (Nat.le_mul_of_pos_right B (Nat.pow_pos (by omega))) hB
 refine rnormal_ok (q := fun i => ofR (p i)) hF ?_ hn (fun i _ => ofR_fit (bd_fit (hb i) h0 hD hB1)) h0 hD hb hB
 rw [show (fun i => (ofR (p i)).val) = p from funext fun i => ofR_val _]
 exact Q.qx_self fp
theorem radd_ok {n m d D BA BB C : Nat} {q p : Nat → RawR} {A B f : Nat → Rat} (hF : Fd d C f) (hA : Q.qx n (fun i => (q i).val) = A) (hB : Q.qx m (fun i => (p i).val) = B) (hn : n ≤ 32) (hm : m ≤ 32) (hq : ∀ i, i < n → (q i).Fit KD) (hp : ∀ i, i < m → (p i).Fit KD) (h0 : 0 < D) (hD : D < Dg.B ^ KD) (bA : ∀ k, Bd D BA (A k)) (bB : ∀ k, Bd D BB (B k)) (hG : (BA + BB) * (1 + C) ^ 64 < Dg.B ^ KD) : ∃ r, Q.Rm d f (fun k => A k + B k) r ∧ (∀ k, Bd D ((BA + BB) * (1 + C) ^ 64) (r k)) ∧ FnOK Tryz.prog true 125 [ringP d f, .c (ql n q), .c (ql m p)] (.c (nql (Q.tq r d) r)) := by
 have h1 := qpAdd_ok (v := fun k => A k + B k) (L := KD) (fun i _ => by rw [hA, hB]) (by omega) (by omega) hq hp (by decide)
 have fA : Q.Fin (max n m) A := by rw [← hA]; exact (Q.qx_fin _ _).mono (Nat.le_max_left _ _)
 have fB : Q.Fin (max n m) B := by rw [← hB]; exact (Q.qx_fin _ _).mono (Nat.le_max_right _ _)
 have hT := Q.tq_fin (fA.add fB)
 have hl := Q.tq_le (fun k => A k + B k) (max n m)
 generalize Q.tq (fun k => A k + B k) (max n m) = T at *
 have hle : (BA + BB) * (1 + C) ^ T ≤ (BA + BB) * (1 + C) ^ 64 := Nat.mul_le_mul_left _ (Nat.pow_le_pow_right (by omega) (by omega))
 obtain ⟨r, r1, r2, r3⟩ := rnormal_n hF hT (by omega) h0 hD (fun k => (bA k).add (bB k)) (Nat.lt_of_le_of_lt hle hG)
 refine ⟨r, r1, fun k => (r2 k).mono hle, ?_⟩
 clear r1 r2 hle hl hT fA fB bA bB hG hq hp hA hB hF
 generalize Q.tq r d = Z at *
 generalize (fun k => A k + B k) = S at *
 refine fn_ok (E := E1) E1_ok Tryz.func125 rfl mixed (by kernel_rfl) (by kernel_rfl) ?_
 conv => whnf
 refine ⟨_, h1, ?_⟩
 conv => whnf
 refine ⟨_, r3, ?_⟩
 conv => whnf
 exact ⟨rfl, Sub.refl _⟩
end Rf
end Go.Proofs.YtmbejakmeijcbaaGreat
/- Number fields: the calls of sums and products; coordinates, and the letter. -/
namespace Go.Proofs.YtmbejakmeijcbaaGreat
open Go.RowKit
open Classical in
noncomputable def Q.red (d : Nat) (f p : Nat → Rat) : Nat → Rat := if h : ∃ r, Q.Rm d f p r then h.choose else p
namespace Rf
set_option maxHeartbeats 4000000 in
theorem nAdd_ok {n d N M T : Nat} {c : Nat → RawZ} {f r : Nat → Rat} {q p : Nat → RawR} (ho : FnOK Tryz.prog true 89 [.g [zl n c]] (.t2 (ringP d f) (.c (.int .i64 0)))) (hr : FnOK Tryz.prog true 125 [ringP d f, .c (ql N q), .c (ql M p)] (.c (nql T r))) : FnOK Tryz.prog true 87 [.g [zl n c], .c (ql N q), .c (ql M p)] (.t2 (.c (nql T r)) (.c (.int .i64 0))) := by
 refine fn_ok (E := E1) E1_ok Tryz.func87 rfl mixed (by kernel_rfl) (by kernel_rfl) ?_
 conv => whnf
 refine ⟨_, ho, ?_⟩
 conv => whnf
 refine ⟨_, hr, ?_⟩
 conv => whnf
 exact ⟨rfl, Sub.refl _⟩
end Rf
end Go.Proofs.YtmbejakmeijcbaaGreat
/- The document's fractions in normal form: sign, comparison, product, sum; combinations of lists. -/
namespace Go.Proofs.YtmbejakmeijcbaaGreat
open Go.RowKit
namespace Rf
theorem lenZ {x : Rat} {L : Nat} (h : qlen x ≤ L) : zlen x.num ≤ L ∧ zlen (x.den : Int) ≤ L := by
 have h : max (zlen x.num) (zlen (x.den : Int)) ≤ L := h
 omega
theorem wq_n {x : Rat} (h : qlen x ≤ 524286) : wq (ofR x) := by
 have h1 := lenZ h
 refine ⟨⟨wr_nz (by omega), wr_nz (by omega)⟩, ?_, ?_⟩
 ·show zlen (ofZ x.num).val ≤ _
  rw [ofZ_val]; exact h1.1
 ·show zlen (ofZ (x.den : Int)).val ≤ _
  rw [ofZ_val]; exact h1.2
theorem rqnorm_n {x : Rat} (h : qlen x ≤ 524286) : FnOK Tryz.prog false 120 [.g (nq x)] (.g (nq x)) := by
 have := rqnormal_ok (wq_n h)
 rwa [ofR_val] at this
set_option maxHeartbeats 4000000 in
theorem rqsign_n {x : Rat} (h : qlen x ≤ 524286) : FnOK Tryz.prog false 52 [.g (nq x)] (.c (.int .i64 x.num.sign)) := by
 have h1 := lenZ h
 have s1 := zsign_ok (a := ofZ x.num) (wr_nz (by omega))
 have s2 := zsign_ok (a := ofZ (x.den : Int)) (wr_nz (by omega))
 rw [ofZ_val] at s1 s2
 have e : x.num.sign * (x.den : Int).sign = x.num.sign := by
  have := x.den_pos
  rw [Int.sign_eq_one_of_pos (show (0 : Int) < (x.den : Int) by omega), Int.mul_one]
 refine fn_ok (E := E0) E0_ok Tryz.func52 rfl mixed (by kernel_rfl) (by kernel_rfl) ?_
 conv => whnf
 refine ⟨_, s1, ?_⟩
 conv => whnf
 refine ⟨_, s2, ?_⟩
 conv => whnf
 refine ⟨sign_range _ _, ?_⟩
 conv => whnf
 exact ⟨rfl, Sub.int e⟩
set_option maxHeartbeats 4000000 in
theorem rqsame_n {x y : Rat} (h : qlen x ≤ 524286) : FnOK Tryz.prog false 23 [.g (nq x), .g (nq y)] (.c (.bool (decide (x = y)))) := by
 have h1 := lenZ h
 have s1 := same_nz (x := x.num) (y := y.num) (by omega)
 have s2 := same_nz (x := (x.den : Int)) (y := (y.den : Int)) (by omega)
 have e : x = y ↔ x.num = y.num ∧ (x.den : Int) = (y.den : Int) := ⟨fun e => by rw [e]; exact ⟨rfl, rfl⟩, fun ⟨a, b⟩ => Rat.ext a (by omega)⟩
 have e1 : x.num ≠ y.num → false = decide (x = y) := fun a => (decide_eq_false fun b => a (e.1 b).1).symm
 have e2 : x.num = y.num → decide ((x.den : Int) = (y.den : Int)) = decide (x = y) := fun a => decide_eq_decide.2 ⟨fun b => e.2 ⟨a, b⟩, fun b => (e.1 b).2⟩
 refine fn_ok (E := E0) E0_ok Tryz.func23 rfl mixed (by kernel_rfl) (by kernel_rfl) ?_
 conv => whnf
 refine ⟨_, s1, ?_⟩
 conv => whnf
 refine bcase (fun (c : gw true (decide (x.num = y.num)) = true) => ?_) fun (c : gw true (decide (x.num = y.num)) = false) => ?_
 ·have c := e2 (of_decide_eq_true (gw_true.1 c))
  conv => whnf
  refine ⟨_, s2, ?_⟩
  conv => whnf
  exact ⟨rfl, sub_bool c⟩
 ·have c := e1 (of_decide_eq_false (gw_false.1 c))
  conv => whnf
  exact ⟨rfl, sub_bool c⟩
theorem over_n {a b : Int} {x : Rat} (hx : ratio a b = x) (h1 : zlen a ≤ 524286) (h2 : zlen b ≤ 524286) : FnOK Tryz.prog false 121 [.g (nz a), .g (nz b)] (.g (nq x)) := by
 have := rover_ok (a := ofZ a) (b := ofZ b) (wr_nz (by omega)) (wr_nz (by omega)) (by rw [ofZ_val]; exact h1) (by rw [ofZ_val]; exact h2)
 rw [ofZ_val, ofZ_val, hx] at this
 exact this
set_option maxHeartbeats 4000000 in
theorem rqmul_n {x y : Rat} (hx : qlen x ≤ 65535) (hy : qlen y ≤ 65535) : FnOK Tryz.prog false 84 [.g (nq x), .g (nq y)] (.g (nq (x * y))) := by
 have h1 := lenZ hx
 have h2 := lenZ hy
 have m1 := zmul_n (a := x.num) (b := y.num) (by omega)
 have m2 := zmul_n (a := (x.den : Int)) (b := (y.den : Int)) (by omega)
 have l1 := zlen_mul x.num y.num
 have l2 := zlen_mul (x.den : Int) (y.den : Int)
 have o := over_n (x := x * y) (a := x.num * y.num) (b := (x.den : Int) * (y.den : Int)) (by rw [← ratio_mul, ratio_num_den, ratio_num_den]) (by omega) (by omega)
 refine fn_ok (E := E0) E0_ok Tryz.func84 rfl mixed (by kernel_rfl) (by kernel_rfl) ?_
 conv => whnf
 refine ⟨_, m1, ?_⟩
 conv => whnf
 refine ⟨_, m2, ?_⟩
 conv => whnf
 refine ⟨_, o, ?_⟩
 conv => whnf
 exact ⟨rfl, Sub.refl _⟩
set_option maxHeartbeats 4000000 in
theorem rqadd_n {x y : Rat} (hx : qlen x ≤ 131070) (hy : qlen y ≤ 131070) : FnOK Tryz.prog false 83 [.g (nq x), .g (nq y)] (.g (nq (x + y))) := by
 have h1 := lenZ hx
 have h2 := lenZ hy
 have n1 := rqnorm_n (x := x) (by omega)
 have n2 := rqnorm_n (x := y) (by omega)
 have m1 := zmul_n (a := x.num) (b := (y.den : Int)) (by omega)
 have m2 := zmul_n (a := y.num) (b := (x.den : Int)) (by omega)
 have m3 := zmul_n (a := (x.den : Int)) (b := (y.den : Int)) (by omega)
 have l1 := zlen_mul x.num (y.den : Int)
 have l2 := zlen_mul y.num (x.den : Int)
 have l3 := zlen_mul (x.den : Int) (y.den : Int)
 have l4 := zlen_add (x.num * (y.den : Int)) (y.num * (x.den : Int))
 have a1 := zadd_ok (a := ofZ (x.num * (y.den : Int))) (b := ofZ (y.num * (x.den : Int))) (wr_nz (by omega)) (wr_nz (by omega)) (by rw [ofZ_val]; omega) (by rw [ofZ_val]; omega)
 rw [ofZ_val, ofZ_val] at a1
 have d1 := x.den_pos
 have d2 := y.den_pos
 have o := over_n (x := x + y) (a := x.num * (y.den : Int) + y.num * (x.den : Int)) (b := (x.den : Int) * (y.den : Int)) (by rw [← ratio_add (by omega) (by omega), ratio_num_den, ratio_num_den]) (by omega) (by omega)
 refine fn_ok (E := E0) E0_ok Tryz.func83 rfl mixed (by kernel_rfl) (by kernel_rfl) ?_
 conv => whnf
 refine ⟨_, n1, ?_⟩
 conv => whnf
 refine ⟨_, n2, ?_⟩
 conv => whnf
 refine ⟨_, m1, ?_⟩
 conv => whnf
 refine ⟨_, m2, ?_⟩
 conv => whnf
 refine ⟨_, a1, ?_⟩
 conv => whnf
 refine ⟨_, m3, ?_⟩
 conv => whnf
 refine ⟨_, o, ?_⟩
 conv => whnf
 exact ⟨rfl, Sub.refl _⟩
end Rf
end Go.Proofs.YtmbejakmeijcbaaGreat
/- The document's lists of fractions: zeros, combinations. -/
namespace Go.Proofs.YtmbejakmeijcbaaGreat
open Go.RowKit
namespace Rf
theorem rqof_zero : FnOK Tryz.prog false 33 [.c (.int .i64 0)] (.g (nq 0)) := by
 have h := rqof_ok (n := 0) (by decide) (by decide)
 rwa [show ((0 : Int) : Rat) = 0 from rfl] at h
theorem app_sameq (v : Nat → Rat) (i j : Nat) : (if j = i then nq (v i) else nq (v j)) = nq (v j) := app_same (fun i => nq (v i)) i j
theorem one_nq {bl : List Blk} (x : Rat) (r : Bool) (i j : Nat) (hi : i < 1) (hj : j < 4) : St.one bl (rowF 4 (nq x) i j) = true ∧ (r = true → (rowF 4 (nq x) i j).noU = true) := by
 match i, j, hi, hj with
 | 0, 0, _, _ => exact ⟨rfl, fun _ => rfl⟩
 | 0, 1, _, _ => exact ⟨rfl, fun _ => rfl⟩
 | 0, 2, _, _ => exact ⟨rfl, fun _ => rfl⟩
 | 0, 3, _, _ => exact ⟨rfl, fun _ => rfl⟩
end Rf
end Go.Proofs.YtmbejakmeijcbaaGreat
/- The document's matrices: rows. -/
namespace Go.Proofs.YtmbejakmeijcbaaGreat
open Go.RowKit
namespace Rf
end Rf
end Go.Proofs.YtmbejakmeijcbaaGreat
/- The document's matrices: a list times a matrix; a matrix of rows; products. -/
namespace Go.Proofs.YtmbejakmeijcbaaGreat
open Go.RowKit
namespace Rf
end Rf
end Go.Proofs.YtmbejakmeijcbaaGreat
/- The document's product of matrices. -/
namespace Go.Proofs.YtmbejakmeijcbaaGreat
open Go.RowKit
namespace Rf
end Rf
end Go.Proofs.YtmbejakmeijcbaaGreat
/- Lists and matrices are the same as themselves. -/
namespace Go.Proofs.YtmbejakmeijcbaaGreat
open Go.RowKit
namespace Rf
end Rf
end Go.Proofs.YtmbejakmeijcbaaGreat
/- The document's polynomials over the rational numbers: normal form, degree, product. -/
namespace Go.Proofs.YtmbejakmeijcbaaGreat
open Go.RowKit
namespace Rf
set_option maxHeartbeats 4000000 in
theorem normal6_ok {n : Nat} {q : Nat → RawR} {v : Nat → Rat} (hn : n ≤ 4096) (hv : ∀ i, i < n → (q i).val = v i) (hq : ∀ i, i < n → wq (q i)) (hl : ∀ i, i < n → qlen (v i) ≤ 524286) : FnOK Tryz.prog false 82 [.c (ql n q)] (.c (nql (Q.tq v n) v)) := by
 have h1 : ∀ i, i < n → FnOK Tryz.prog false 120 [.g (rr (q i))] (.g (nq (v i))) := fun i hi => by
  rw [← hv i hi]
  exact rqnormal_ok (hq i hi)
 have h2 : ∀ i, i < n → FnOK Tryz.prog false 52 [.g (nq (v i))] (.c (.int .i64 (v i).num.sign)) := fun i hi => rqsign_n (hl i hi)
 clear hv hq hl
 refine fn_ok (E := E0) E0_ok Tryz.func82 rfl mixed (by kernel_rfl) (by kernel_rfl) ?_
 conv => whnf
 refine loop_ints (fun i : Nat => gst [(0, .c (ql n q)), (3, .c (.gs 0 0)), (4, .c (.int .i64 i))] [gqr i fun k => ofR (v k)]) (fun i => n - i) (fun i => i ≤ n) 0 rfl (Weak.gen [none] rfl ⟨rfl, trivial⟩ ⟨.inl ⟨_, _, rfl, rfl, fun _ _ _ _ => rfl⟩, rfl, ⟨_, rfl, rfl⟩, trivial⟩) (Nat.zero_le _) fun i hi => ?_
 conv => whnf
 refine bcase (fun (h : decide ((i : Int) < n) = true) => ?_) fun (h : decide ((i : Int) < n) = false) => ?_
 ·have h := of_decide_eq_true h
  have g1 := h1 i (by omega)
  conv => whnf
  refine ⟨by omega, ?_⟩
  conv => whnf
  refine ⟨by omega, ?_⟩
  conv => whnf
  refine ⟨_, g1, ?_⟩
  conv => whnf
  refine ⟨by show i + 1 ≤ 16777216; omega, fun x y hx hy => one_nq (v i) _ x y hx hy, ?_⟩
  conv => whnf
  refine ⟨i64 (by omega) (by omega), ?_⟩
  conv => whnf
  refine ⟨i + 1, by omega, Weak.gen [some 0] rfl ⟨⟨_, rfl, rfl, rfl, rfl, rfl, fun j k hj hk => ?_⟩, trivial⟩ ⟨.inl ⟨_, _, rfl, rfl, fun _ _ _ _ => rfl⟩, ⟨_, rfl, rfl, rfl⟩, ⟨_, rfl, rfl⟩, trivial⟩, by omega⟩
  exact regE (appG (sz := 4) (g := fun i => nq (v i)) (g' := fun i => nq (v i)) (l := nq (v i)) (app_sameq v i j) (Nat.le_refl (i + 1)) hj) (ql_clos (c := fun i => ofR (v i)) j k)
 ·have h := of_decide_eq_false h
  have e : i = n := by omega
  conv => whnf
  refine loop_ints (fun m : Nat => gst [(3, .c (.gs 0 0)), (5, .c (.int .i64 m))] [gqr i fun k => ofR (v k)]) (fun m => m) (fun m => m ≤ i ∧ Q.tq v m = Q.tq v i) i rfl (Weak.gen [some 0] rfl ⟨⟨_, rfl, rfl, rfl, rfl, rfl, fun j k hj hk => regE rfl (ql_clos (c := fun i => ofR (v i)) j k)⟩, trivial⟩ ⟨⟨_, rfl, rfl, rfl⟩, ⟨_, rfl, rfl⟩, trivial⟩) ⟨Nat.le_refl _, rfl⟩ fun m ⟨hm, ht⟩ => ?_
  conv => whnf
  refine bcase (fun (h : gw true (decide ((0 : Int) < m)) = true) => ?_) fun (h : gw true (decide ((0 : Int) < m)) = false) => ?_
  ·have h := of_decide_eq_true (gw_true.1 h)
   have ek : ((m : Int) - 1).toNat = m - 1 := by omega
   have hs := h2 ((m : Int) - 1).toNat (by omega)
   have hz : v ((m : Int) - 1).toNat = 0 → Q.tq v (m - 1) = Q.tq v i := fun h => by
    rw [← ht]
    obtain ⟨k, rfl⟩ : ∃ k, m = k + 1 := ⟨m - 1, by omega⟩
    rw [ek] at h
    show Q.tq v k = _
    simp only [Q.tq, Nat.add_sub_cancel] at h ⊢
    rw [if_pos h]
   have hz' : v ((m : Int) - 1).toNat ≠ 0 → m = Q.tq v n := fun h => by
    rw [← e, ← ht]
    obtain ⟨k, rfl⟩ : ∃ k, m = k + 1 := ⟨m - 1, by omega⟩
    rw [ek] at h
    simp only [Q.tq, Nat.add_sub_cancel] at h ⊢
    rw [if_neg h]
   conv => whnf
   refine ⟨i64 (by omega) (by omega), ?_⟩
   conv => whnf
   refine ⟨by omega, ?_⟩
   conv => whnf
   refine ⟨by show ((m : Int) - 1) < (i : Int); omega, ?_⟩
   conv => whnf
   refine ⟨_, hs, ?_⟩
   conv => whnf
   refine bcase (fun (h3 : decide ((v ((m : Int) - 1).toNat).num.sign = 0) = true) => ?_) fun (h3 : decide ((v ((m : Int) - 1).toNat).num.sign = 0) = false) => ?_
   ·have h3 := Rat.num_eq_zero.1 (Int.sign_eq_zero_iff_zero.1 (of_decide_eq_true h3))
    have g3 := hz h3
    conv => whnf
    refine ⟨i64 (by omega) (by omega), ?_⟩
    conv => whnf
    exact ⟨m - 1, by omega, Weak.gen [some 0] rfl ⟨⟨_, rfl, rfl, rfl, rfl, rfl, fun j k hj hk => regE rfl (ql_clos (c := fun i => ofR (v i)) j k)⟩, trivial⟩ ⟨⟨_, rfl, rfl, rfl⟩, ⟨_, rfl, by omega⟩, trivial⟩, by omega, g3⟩
   ·have h3 := hz' fun e => of_decide_eq_false h3 (by rw [e]; rfl)
    conv => whnf
    refine ⟨by omega, by omega, ?_⟩
    conv => whnf
    refine ⟨by show (m : Int) ≤ (i : Int); omega, ?_⟩
    conv => whnf
    refine ⟨fun j k _ _ => ql_clos (c := fun i => ofR (v i)) j k, ?_⟩
    conv => whnf
    exact ⟨rfl, subRowG (by show ((m : Int) - 0).toNat = _; omega) fun j k _ _ => qlF_eq (c := fun i => ofR (v i)) (e := fun i => ofR (v i)) (i := Int.toNat 0 + j) (k := j) (congrArg (fun t => ofR (v t)) (by omega))⟩
  ·have h : ¬ (0 : Int) < m := of_decide_eq_false (gw_false.1 h)
   have h3 : Q.tq v n = 0 := by rw [← e, ← ht]; rw [show m = 0 by omega]; rfl
   conv => whnf
   refine ⟨by omega, by omega, ?_⟩
   conv => whnf
   refine ⟨by show (m : Int) ≤ (i : Int); omega, ?_⟩
   conv => whnf
   refine ⟨fun j k _ _ => ql_clos (c := fun i => ofR (v i)) j k, ?_⟩
   conv => whnf
   exact ⟨rfl, subRowG (by show ((m : Int) - 0).toNat = _; omega) fun j k _ _ => qlF_eq (c := fun i => ofR (v i)) (e := fun i => ofR (v i)) (i := Int.toNat 0 + j) (k := j) (congrArg (fun t => ofR (v t)) (by omega))⟩
abbrev cfi (F G : Nat → Rat) (k i : Nat) : Rat := Q.su (fun a => F a * G (k - a)) i
set_option maxHeartbeats 8000000 in
theorem mul6_ok {n m : Nat} {q p : Nat → RawR} {F G : Nat → Rat} (hF : Q.qx n (fun i => (q i).val) = F) (hG : Q.qx m (fun i => (p i).val) = G) (hn : n ≤ 1024) (hm : m ≤ 1024) (hq : ∀ i, i < n → wq (q i)) (hp : ∀ i, i < m → wq (p i)) (lF : ∀ i, qlen (F i) ≤ 65535) (lG : ∀ i, qlen (G i) ≤ 65535) (hs : ∀ k i, qlen (cfi F G k i) ≤ 131070) : FnOK Tryz.prog false 48 [.c (ql n q), .c (ql m p)] (.c (nql (Q.tq (Q.cf F G) (n + m)) (Q.cf F G))) := by
 have s1 := normal6_ok (n := n) (q := q) (v := F) (by omega) (fun i hi => by rw [← hF]; exact (Q.qx_lt (v := fun i => (q i).val) hi).symm) hq fun i _ => by have := lF i; omega
 have s2 := normal6_ok (n := m) (q := p) (v := G) (by omega) (fun i hi => by rw [← hG]; exact (Q.qx_lt (v := fun i => (p i).val) hi).symm) hp fun i _ => by have := lG i; omega
 have f1 : Q.Fin (Q.tq F n) F := Q.tq_fin (by rw [← hF]; exact Q.qx_fin _ _)
 have f2 : Q.Fin (Q.tq G m) G := Q.tq_fin (by rw [← hG]; exact Q.qx_fin _ _)
 have l1 := Q.tq_le F n
 have l2 := Q.tq_le G m
 have fN : Q.Fin (n + m) (Q.cf F G) := (f1.cf f2).mono (by omega)
 generalize Q.tq F n = a at *
 generalize Q.tq G m = b at *
 have z1 : a = 0 → Q.tq (Q.cf F G) (n + m) = 0 := fun e => tq_zero (fun k => Q.su_zero fun i _ => by rw [f1 i (by omega), Rat.zero_mul]) _
 have z2 : b = 0 → Q.tq (Q.cf F G) (n + m) = 0 := fun e => tq_zero (fun k => Q.su_zero fun i _ => by rw [f2 (k - i) (by omega), Rat.mul_zero]) _
 have z3 : a ≠ 0 → b ≠ 0 → ∀ k, k = a + b - 1 → Q.tq (Q.cf F G) k = Q.tq (Q.cf F G) (n + m) := fun e1 e2 k e => Q.tq_eq (fun k hk => Q.su_zero fun i hi => by
  rcases Nat.lt_or_ge i a with c | c
  ·rw [f2 (k - i) (by omega), Rat.mul_zero]
  ·rw [f1 i c, Rat.zero_mul]) fN
 have s3 : ∀ k, k ≤ a + b → FnOK Tryz.prog false 82 [.c (nql k (Q.cf F G))] (.c (nql (Q.tq (Q.cf F G) k) (Q.cf F G))) := fun k hk => normal6_ok (by omega) (fun i _ => ofR_val _) (fun i _ => wq_n (by have := hs i (i + 1); have : qlen (Q.cf F G i) ≤ 131070 := this; omega)) fun i _ => by have := hs i (i + 1); have : qlen (Q.cf F G i) ≤ 131070 := this; omega
 have m0 : ∀ k i : Nat, FnOK Tryz.prog false 84 [.g (nq (F i)), .g (nq (G ((k : Int) - (i : Int)).toNat))] (.g (nq (F i * G (k - i)))) := fun k i => by
  rw [show ((k : Int) - (i : Int)).toNat = k - i by omega]
  exact rqmul_n (lF i) (lG _)
 have a0 : ∀ k i, FnOK Tryz.prog false 83 [.g (nq (cfi F G k i)), .g (nq (F i * G (k - i)))] (.g (nq (cfi F G k (i + 1)))) := fun k i => rqadd_n (hs k i) (qlen_mul (lF i) (lG _) (by decide))
 have e0 : ∀ k i, i ≤ k → (a ≤ i ∨ b ≤ k - i) → cfi F G k i = cfi F G k (i + 1) := fun k i _ h => by
  show _ = cfi F G k i + F i * G (k - i)
  rcases h with h | h
  ·rw [f1 i h, Rat.zero_mul, Rat.add_zero]
  ·rw [f2 (k - i) h, Rat.mul_zero, Rat.add_zero]
 have o0 := rqof_zero
 obtain ⟨S, hS⟩ : ∃ S : Nat → Nat → Rat, S = cfi F G := ⟨_, rfl⟩
 have hS1 : ∀ k, S k (k + 1) = Q.cf F G k := fun k => by rw [hS]; rfl
 have hS0 : ∀ k, S k 0 = 0 := fun k => by rw [hS]; rfl
 rw [← hS] at a0 e0
 clear hS hs lF lG hq hp hF hG f1 f2 fN
 generalize Q.cf F G = C at *
 refine fn_ok (E := E0) E0_ok Tryz.func48 rfl mixed (by kernel_rfl) (by kernel_rfl) ?_
 conv => whnf
 refine .inr ?_
 conv => whnf
 refine ⟨_, s1, ?_⟩
 conv => whnf
 refine .inr ?_
 conv => whnf
 refine ⟨_, s2, ?_⟩
 conv => whnf
 refine bcase (fun (h : gw false (decide ((a : Int) = 0)) = true) => ?_) fun (h : gw false (decide ((a : Int) = 0)) = false) => ?_
 ·have h : a ≠ 0 := by have := of_decide_eq_false (gwf h); omega
  conv => whnf
  refine bcase (fun (h2 : decide ((b : Int) = 0) = true) => ?_) fun (h2 : decide ((b : Int) = 0) = false) => ?_
  ·have h2 : b = 0 := by have := of_decide_eq_true h2; omega
   conv => whnf
   exact ⟨rfl, sub_nil0 (z2 h2)⟩
  have h2 : b ≠ 0 := by have := of_decide_eq_false h2; omega
  have z3 := z3 h h2
  conv => whnf
  refine loop_ints (fun k : Nat => gst [(5, .c (nql a F)), (6, .c (nql b G)), (7, .c (.gs 0 0)), (8, .c (.int .i64 k))] [gqr k fun i => ofR (C i)]) (fun k => a + b - 1 - k) (fun k => k ≤ a + b - 1) 0 rfl (Weak.gen [none] rfl ⟨rfl, trivial⟩ ⟨.inl ⟨_, _, rfl, rfl, fun _ _ _ _ => rfl⟩, .inl ⟨_, _, rfl, rfl, fun _ _ _ _ => rfl⟩, rfl, ⟨_, rfl, rfl⟩, trivial⟩) (Nat.zero_le _) fun k hk => ?_
  have s3 := s3 k
  have z3 := z3 k
  have m0 := m0 k
  have a0 := a0 k
  have e0 := e0 k
  have hS1 := hS1 k
  have hS0 := hS0 k
  conv => whnf
  refine ⟨i64 (by omega) (by omega), ?_⟩
  conv => whnf
  refine ⟨i64 (by omega) (by omega), ?_⟩
  conv => whnf
  refine bcase (fun (h3 : decide ((k : Int) < (a : Int) + (b : Int) - 1) = true) => ?_) fun (h3 : decide ((k : Int) < (a : Int) + (b : Int) - 1) = false) => ?_
  ·have h3 := of_decide_eq_true h3
   conv => whnf
   refine ⟨_, o0, ?_⟩
   conv => whnf
   refine loop_ints (fun i : Nat => gst [(5, .c (nql a F)), (6, .c (nql b G)), (7, .c (.gs 0 0)), (8, .c (.int .i64 k)), (9, .c (.p 1 0 4 0 0)), (10, .c (.int .i64 i))] [gqr k fun i => ofR (C i), ⟨46, 4, 1, boxF (nq (S k i))⟩]) (fun i => k + 1 - i) (fun i => i ≤ k + 1) 0 rfl (Weak.gen [some 0, some 1] rfl ⟨⟨_, rfl, rfl, rfl, rfl, rfl, fun x y hx hy => regE rfl (ql_clos (c := fun i => ofR (C i)) x y)⟩, (by rw [hS0]; exact boxU rfl rfl rfl), trivial⟩ ⟨.inl ⟨_, _, rfl, rfl, fun _ _ _ _ => rfl⟩, .inl ⟨_, _, rfl, rfl, fun _ _ _ _ => rfl⟩, ⟨_, rfl, rfl, rfl⟩, ⟨_, rfl, rfl⟩, ⟨_, rfl, rfl, rfl⟩, ⟨_, rfl, rfl⟩, trivial⟩) (Nat.zero_le _) fun i hi => ?_
   have m0 := m0 i
   have a0 := a0 i
   have e0 := e0 i
   conv => whnf
   refine bcase (fun (h4 : decide ((i : Int) ≤ k) = true) => ?_) fun (h4 : decide ((i : Int) ≤ k) = false) => ?_
   ·have h4 := of_decide_eq_true h4
    conv => whnf
    refine bcase (fun (h5 : gw true (decide ((i : Int) < a)) = true) => ?_) fun (h5 : gw true (decide ((i : Int) < a)) = false) => ?_
    ·have h5 := of_decide_eq_true (gw_true.1 h5)
     conv => whnf
     refine ⟨i64 (by omega) (by omega), ?_⟩
     conv => whnf
     refine bcase (fun (h6 : decide ((k : Int) - (i : Int) < b) = true) => ?_) fun (h6 : decide ((k : Int) - (i : Int) < b) = false) => ?_
     ·have h6 := of_decide_eq_true h6
      conv => whnf
      refine ⟨by omega, by omega, ?_⟩
      conv => whnf
      refine ⟨i64 (by omega) (by omega), ?_⟩
      conv => whnf
      refine ⟨by omega, by omega, ?_⟩
      conv => whnf
      refine ⟨_, m0, ?_⟩
      conv => whnf
      refine ⟨_, a0, ?_⟩
      conv => whnf
      refine ⟨i64 (by omega) (by omega), ?_⟩
      conv => whnf
      exact ⟨i + 1, by omega, Weak.gen [some 0, some 1] rfl ⟨⟨_, rfl, rfl, rfl, rfl, rfl, fun x y hx hy => regE rfl (ql_clos (c := fun i => ofR (C i)) x y)⟩, boxU rfl rfl rfl, trivial⟩ ⟨.inl ⟨_, _, rfl, rfl, fun _ _ _ _ => rfl⟩, .inl ⟨_, _, rfl, rfl, fun _ _ _ _ => rfl⟩, ⟨_, rfl, rfl, rfl⟩, ⟨_, rfl, rfl⟩, ⟨_, rfl, rfl, rfl⟩, ⟨_, rfl, rfl⟩, trivial⟩, by omega⟩
     ·have h6 := of_decide_eq_false h6
      have e0 := e0 (by omega) (.inr (by omega))
      conv => whnf
      refine ⟨i64 (by omega) (by omega), ?_⟩
      conv => whnf
      exact ⟨i + 1, by omega, Weak.gen [some 0, some 1] rfl ⟨⟨_, rfl, rfl, rfl, rfl, rfl, fun x y hx hy => regE rfl (ql_clos (c := fun i => ofR (C i)) x y)⟩, (by rw [← e0]; exact boxK rfl rfl), trivial⟩ ⟨.inl ⟨_, _, rfl, rfl, fun _ _ _ _ => rfl⟩, .inl ⟨_, _, rfl, rfl, fun _ _ _ _ => rfl⟩, ⟨_, rfl, rfl, rfl⟩, ⟨_, rfl, rfl⟩, ⟨_, rfl, rfl, rfl⟩, ⟨_, rfl, rfl⟩, trivial⟩, by omega⟩
    ·have h5 := of_decide_eq_false (gw_false.1 h5)
     have e0 := e0 (by omega) (.inl (by omega))
     conv => whnf
     refine ⟨i64 (by omega) (by omega), ?_⟩
     conv => whnf
     exact ⟨i + 1, by omega, Weak.gen [some 0, some 1] rfl ⟨⟨_, rfl, rfl, rfl, rfl, rfl, fun x y hx hy => regE rfl (ql_clos (c := fun i => ofR (C i)) x y)⟩, (by rw [← e0]; exact boxK rfl rfl), trivial⟩ ⟨.inl ⟨_, _, rfl, rfl, fun _ _ _ _ => rfl⟩, .inl ⟨_, _, rfl, rfl, fun _ _ _ _ => rfl⟩, ⟨_, rfl, rfl, rfl⟩, ⟨_, rfl, rfl⟩, ⟨_, rfl, rfl, rfl⟩, ⟨_, rfl, rfl⟩, trivial⟩, by omega⟩
   ·have h4 := of_decide_eq_false h4
    have ei : S k i = C k := by rw [show i = k + 1 by omega]; exact hS1
    conv => whnf
    refine ⟨by show k + 1 ≤ 16777216; omega, fun x y hx hy => one_nq (S k i) _ x y hx hy, ?_⟩
    conv => whnf
    refine ⟨i64 (by omega) (by omega), ?_⟩
    conv => whnf
    refine ⟨k + 1, by omega, Weak.gen [some 0] rfl ⟨⟨_, rfl, rfl, rfl, rfl, rfl, fun x y hx hy => regE ?_ (ql_clos (c := fun i => ofR (C i)) x y)⟩, trivial⟩ ⟨.inl ⟨_, _, rfl, rfl, fun _ _ _ _ => rfl⟩, .inl ⟨_, _, rfl, rfl, fun _ _ _ _ => rfl⟩, ⟨_, rfl, rfl, rfl⟩, ⟨_, rfl, rfl⟩, trivial⟩, by omega⟩
    exact appG (sz := 4) (g := fun k => nq (C k)) (g' := fun k => nq (C k)) (l := nq (S k i)) (by rw [ei]; exact app_sameq C k x) (Nat.le_refl (k + 1)) hx
  ·have h3 := of_decide_eq_false h3
   have s3 := s3 (by omega)
   rw [z3 (by omega)] at s3
   conv => whnf
   refine .inr ⟨fun x y _ _ => ql_clos (c := fun i => ofR (C i)) x y, ?_⟩
   conv => whnf
   refine ⟨_, s3, ?_⟩
   conv => whnf
   exact ⟨rfl, Sub.refl _⟩
 ·have h : a = 0 := by have := of_decide_eq_true (gwf' h); omega
  conv => whnf
  exact ⟨rfl, sub_nil0 (z1 h)⟩
end Rf
end Go.Proofs.YtmbejakmeijcbaaGreat
/- The document's fractions and polynomials over the rational numbers: whole numbers, negatives, differences, ratios; lists of whole numbers, places, sums. -/
namespace Go.Proofs.YtmbejakmeijcbaaGreat
open Go.RowKit
namespace Rf
set_option maxHeartbeats 4000000 in
theorem rqwhole_ok {a : RawZ} (h : wr a) : FnOK Tryz.prog false 105 [.g (zr a)] (.g (nq (a.val : Rat))) := by
 have o1 := znorm_ok h
 have o2 := rof_ok (x := 1) (by decide) (by decide)
 refine fn_ok (E := E0) E0_ok Tryz.func105 rfl mixed (by kernel_rfl) (by kernel_rfl) ?_
 conv => whnf
 refine ⟨_, o1, ?_⟩
 conv => whnf
 refine ⟨_, o2, ?_⟩
 conv => whnf
 refine ⟨rfl, leaf (x := ((a.val : Int) : Rat)) (n := a.val) (d := 1) ?_⟩
 unfold ofR; simp
theorem zneg_n {x : Int} (h : zlen x ≤ 1048576) : FnOK Tryz.prog false 153 [.g (nz x)] (.g (nz (-x))) := by
 have := zneg_ok (a := ofZ x) (wr_nz h)
 rwa [ofZ_val] at this
set_option maxHeartbeats 4000000 in
theorem rqneg_n {x : Rat} (hx : qlen x ≤ 131070) : FnOK Tryz.prog false 143 [.g (nq x)] (.g (nq (-x))) := by
 have h1 := lenZ hx
 have m1 := zneg_n (x := x.num) (by omega)
 have e := zlen_neg x.num
 have o := over_n (x := -x) (a := -x.num) (b := (x.den : Int)) (by rw [ratio_neg_left, ratio_num_den]) (by omega) (by omega)
 refine fn_ok (E := E0) E0_ok Tryz.func143 rfl mixed (by kernel_rfl) (by kernel_rfl) ?_
 conv => whnf
 refine ⟨_, m1, ?_⟩
 conv => whnf
 refine ⟨_, o, ?_⟩
 conv => whnf
 exact ⟨rfl, Sub.refl _⟩
theorem qlen_neg (x : Rat) : qlen (-x) = qlen x := by
 show max (zlen (-x).num) (zlen ((-x).den : Int)) = max (zlen x.num) (zlen (x.den : Int))
 rw [Rat.neg_num, Rat.neg_den, zlen_neg]
set_option maxHeartbeats 4000000 in
theorem rqsub_n {x y : Rat} (hx : qlen x ≤ 131070) (hy : qlen y ≤ 131070) : FnOK Tryz.prog false 104 [.g (nq x), .g (nq y)] (.g (nq (x - y))) := by
 have m1 := rqneg_n hy
 have o := rqadd_n hx (y := -y) (by rw [qlen_neg]; exact hy)
 rw [← Rat.sub_eq_add_neg] at o
 refine fn_ok (E := E0) E0_ok Tryz.func104 rfl mixed (by kernel_rfl) (by kernel_rfl) ?_
 conv => whnf
 refine ⟨_, m1, ?_⟩
 conv => whnf
 refine ⟨_, o, ?_⟩
 conv => whnf
 exact ⟨rfl, Sub.refl _⟩
set_option maxHeartbeats 4000000 in
theorem rqratio_n {x y : Rat} (hx : qlen x ≤ 131070) (hy : qlen y ≤ 131070) : FnOK Tryz.prog false 103 [.g (nq x), .g (nq y)] (.g (nq (x / y))) := by
 have h1 := lenZ hx
 have h2 := lenZ hy
 have n1 := rqnorm_n (x := x) (by omega)
 have n2 := rqnorm_n (x := y) (by omega)
 have m1 := zmul_n (a := x.num) (b := (y.den : Int)) (by omega)
 have m2 := zmul_n (a := (x.den : Int)) (b := y.num) (by omega)
 have l1 := zlen_mul x.num (y.den : Int)
 have l2 := zlen_mul (x.den : Int) y.num
 have o := over_n (x := x / y) (a := x.num * (y.den : Int)) (b := (x.den : Int) * y.num) (by rw [← ratio_div, ratio_num_den, ratio_num_den]) (by omega) (by omega)
 refine fn_ok (E := E0) E0_ok Tryz.func103 rfl mixed (by kernel_rfl) (by kernel_rfl) ?_
 conv => whnf
 refine ⟨_, n1, ?_⟩
 conv => whnf
 refine ⟨_, n2, ?_⟩
 conv => whnf
 refine ⟨_, m1, ?_⟩
 conv => whnf
 refine ⟨_, m2, ?_⟩
 conv => whnf
 refine ⟨_, o, ?_⟩
 conv => whnf
 exact ⟨rfl, Sub.refl _⟩
set_option maxHeartbeats 4000000 in
theorem of6_ok {n : Nat} {c : Nat → RawZ} {v : Nat → Rat} (hn : n ≤ 4096) (hc : ∀ i, i < n → wr (c i)) (hv : (fun i => ((c i).val : Rat)) = v) (hl : ∀ i, i < n → qlen (v i) ≤ 524286) : FnOK Tryz.prog false 70 [.c (zl n c)] (.c (nql (Q.tq v n) v)) := by
 have h1 : ∀ i, i < n → FnOK Tryz.prog false 105 [.g (zr (c i))] (.g (nq (v i))) := fun i hi => by
  rw [← hv]
  exact rqwhole_ok (hc i hi)
 have n1 : ∀ i, i = n → FnOK Tryz.prog false 82 [.c (nql i v)] (.c (nql (Q.tq v n) v)) := fun i e => by
  rw [e]
  exact normal6_ok hn (fun i _ => ofR_val _) (fun i hi => wq_n (hl i hi)) hl
 clear hc hv hl
 refine fn_ok (E := E0) E0_ok Tryz.func70 rfl mixed (by kernel_rfl) (by kernel_rfl) ?_
 conv => whnf
 refine loop_ints (fun i : Nat => gst [(0, .c (zl n c)), (3, .c (.gs 0 0)), (4, .c (.int .i64 i))] [gqr i fun k => ofR (v k)]) (fun i => n - i) (fun i => i ≤ n) 0 rfl (Weak.gen [none] rfl ⟨rfl, trivial⟩ ⟨.inl ⟨_, _, rfl, rfl, fun _ _ _ _ => rfl⟩, rfl, ⟨_, rfl, rfl⟩, trivial⟩) (Nat.zero_le _) fun i hi => ?_
 have n1 := n1 i
 conv => whnf
 refine bcase (fun (h : decide ((i : Int) < n) = true) => ?_) fun (h : decide ((i : Int) < n) = false) => ?_
 ·have h := of_decide_eq_true h
  have g1 := h1 i (by omega)
  conv => whnf
  refine ⟨by omega, ?_⟩
  conv => whnf
  refine ⟨by omega, ?_⟩
  conv => whnf
  refine ⟨_, g1, ?_⟩
  conv => whnf
  refine ⟨by show i + 1 ≤ 16777216; omega, fun x y hx hy => one_nq (v i) _ x y hx hy, ?_⟩
  conv => whnf
  refine ⟨i64 (by omega) (by omega), ?_⟩
  conv => whnf
  refine ⟨i + 1, by omega, Weak.gen [some 0] rfl ⟨⟨_, rfl, rfl, rfl, rfl, rfl, fun j k hj hk => ?_⟩, trivial⟩ ⟨.inl ⟨_, _, rfl, rfl, fun _ _ _ _ => rfl⟩, ⟨_, rfl, rfl, rfl⟩, ⟨_, rfl, rfl⟩, trivial⟩, by omega⟩
  exact regE (appG (sz := 4) (g := fun i => nq (v i)) (g' := fun i => nq (v i)) (l := nq (v i)) (app_sameq v i j) (Nat.le_refl (i + 1)) hj) (ql_clos (c := fun i => ofR (v i)) j k)
 ·have h := of_decide_eq_false h
  have n1 := n1 (by omega)
  conv => whnf
  refine .inr ⟨fun x y _ _ => ql_clos (c := fun i => ofR (v i)) x y, ?_⟩
  conv => whnf
  refine ⟨_, n1, ?_⟩
  conv => whnf
  exact ⟨rfl, Sub.refl _⟩
set_option maxHeartbeats 4000000 in
theorem at6_ok {n i : Nat} {q : Nat → RawR} {F : Nat → Rat} (hF : Q.qx n (fun i => (q i).val) = F) (hi : i ≤ 4096) (hq : ∀ i, i < n → wq (q i)) : FnOK Tryz.prog false 88 [.c (ql n q), .c (.int .i64 i)] (.g (nq (F i))) := by
 have o0 := rqof_zero
 have e0 : ¬ i < n → nq 0 = nq (F i) := fun h => by rw [← hF, show Q.qx n (fun i => (q i).val) i = 0 from if_neg h]
 have n0 : i < n → FnOK Tryz.prog false 120 [.g (rr (q i))] (.g (nq (F i))) := fun h => by
  have := rqnormal_ok (hq i h)
  rw [← hF, Q.qx_lt h]
  exact this
 clear hF hq
 refine fn_ok (E := E0) E0_ok Tryz.func88 rfl mixed (by kernel_rfl) (by kernel_rfl) ?_
 conv => whnf
 refine bcase (fun (h : decide ((n : Int) ≤ i) = true) => ?_) fun (h : decide ((n : Int) ≤ i) = false) => ?_
 ·have h := e0 (by have := of_decide_eq_true h; omega)
  conv => whnf
  refine ⟨_, o0, ?_⟩
  conv => whnf
  rw [← h]
  exact ⟨rfl, Sub.refl _⟩
 ·have h := of_decide_eq_false h
  have n0 := n0 (by omega)
  conv => whnf
  refine ⟨by omega, by omega, ?_⟩
  conv => whnf
  refine ⟨_, n0, ?_⟩
  conv => whnf
  exact ⟨rfl, Sub.refl _⟩
set_option maxHeartbeats 4000000 in
theorem add6_ok {n m : Nat} {q p : Nat → RawR} {F G : Nat → Rat} (hF : Q.qx n (fun i => (q i).val) = F) (hG : Q.qx m (fun i => (p i).val) = G) (hn : n ≤ 1024) (hm : m ≤ 1024) (hq : ∀ i, i < n → wq (q i)) (hp : ∀ i, i < m → wq (p i)) (lF : ∀ i, qlen (F i) ≤ 131070) (lG : ∀ i, qlen (G i) ≤ 131070) (lS : ∀ i, qlen (F i + G i) ≤ 524286) : FnOK Tryz.prog false 57 [.c (ql n q), .c (ql m p)] (.c (nql (Q.tq (fun i => F i + G i) (max n m)) fun i => F i + G i)) := by
 have a1 : ∀ i : Nat, i ≤ 4096 → FnOK Tryz.prog false 88 [.c (ql n q), .c (.int .i64 i)] (.g (nq (F i))) := fun i hi => at6_ok hF hi hq
 have a2 : ∀ i : Nat, i ≤ 4096 → FnOK Tryz.prog false 88 [.c (ql m p), .c (.int .i64 i)] (.g (nq (G i))) := fun i hi => at6_ok hG hi hp
 have a3 : ∀ i, FnOK Tryz.prog false 83 [.g (nq (F i)), .g (nq (G i))] (.g (nq (F i + G i))) := fun i => rqadd_n (lF i) (lG i)
 have n0 := normal6_ok (n := max n m) (q := fun i => ofR (F i + G i)) (v := fun i => F i + G i) (by omega) (fun i _ => ofR_val _) (fun i _ => wq_n (lS i)) fun i _ => lS i
 clear hF hG hq hp lF lG lS
 obtain ⟨C, hC⟩ : ∃ C : Nat → Rat, C = fun i => F i + G i := ⟨_, rfl⟩
 have a4 : ∀ i, FnOK Tryz.prog false 83 [.g (nq (F i)), .g (nq (G i))] (.g (nq (C i))) := by rw [hC]; exact a3
 have n0 : FnOK Tryz.prog false 82 [.c (nql (max n m) C)] (.c (nql (Q.tq C (max n m)) C)) := by rw [hC]; exact n0
 rw [← hC]
 clear hC a3
 have n1 : ∀ i, i = max n m → FnOK Tryz.prog false 82 [.c (nql i C)] (.c (nql (Q.tq C (max n m)) C)) := fun i e => by rw [e]; exact n0
 clear n0
 refine fn_ok (E := E0) E0_ok Tryz.func57 rfl mixed (by kernel_rfl) (by kernel_rfl) ?_
 conv => whnf
 refine loop_ints (fun i : Nat => gst [(0, .c (ql n q)), (1, .c (ql m p)), (5, .c (.gs 0 0)), (6, .c (.int .i64 i))] [gqr i fun k => ofR (C k)]) (fun i => max n m - i) (fun i => i ≤ max n m) 0 rfl (Weak.gen [none] rfl ⟨rfl, trivial⟩ ⟨.inl ⟨_, _, rfl, rfl, fun _ _ _ _ => rfl⟩, .inl ⟨_, _, rfl, rfl, fun _ _ _ _ => rfl⟩, rfl, ⟨_, rfl, rfl⟩, trivial⟩) (Nat.zero_le _) fun i hi => ?_
 have a1 := a1 i
 have a2 := a2 i
 have a4 := a4 i
 have n1 := n1 i
 have fin : ∀ {P : Prop}, (i + 1 ≤ 16777216 → P) → i < max n m → P := fun f h => f (by omega)
 conv => whnf
 refine bcase (fun (h : gw false (decide ((i : Int) < n)) = true) => ?_) fun (h : gw false (decide ((i : Int) < n)) = false) => ?_
 ·have h := of_decide_eq_false (gwf h)
  conv => whnf
  refine bcase (fun (h2 : decide ((i : Int) < m) = true) => ?_) fun (h2 : decide ((i : Int) < m) = false) => ?_
  ·have h2 := of_decide_eq_true h2
   have a1 := a1 (by omega)
   have a2 := a2 (by omega)
   conv => whnf
   refine ⟨_, a1, ?_⟩
   conv => whnf
   refine ⟨_, a2, ?_⟩
   conv => whnf
   refine ⟨_, a4, ?_⟩
   conv => whnf
   refine ⟨by show i + 1 ≤ 16777216; omega, fun x y hx hy => one_nq (C i) _ x y hx hy, ?_⟩
   conv => whnf
   refine ⟨i64 (by omega) (by omega), ?_⟩
   conv => whnf
   refine ⟨i + 1, by omega, Weak.gen [some 0] rfl ⟨⟨_, rfl, rfl, rfl, rfl, rfl, fun x y hx hy => regE ?_ (ql_clos (c := fun i => ofR (C i)) x y)⟩, trivial⟩ ⟨.inl ⟨_, _, rfl, rfl, fun _ _ _ _ => rfl⟩, .inl ⟨_, _, rfl, rfl, fun _ _ _ _ => rfl⟩, ⟨_, rfl, rfl, rfl⟩, ⟨_, rfl, rfl⟩, trivial⟩, by omega⟩
   exact appG (sz := 4) (g := fun k => nq (C k)) (g' := fun k => nq (C k)) (l := nq (C i)) (app_sameq C i x) (Nat.le_refl (i + 1)) hx
  ·have h2 := of_decide_eq_false h2
   have n1 := n1 (by omega)
   conv => whnf
   refine .inr ⟨fun x y _ _ => ql_clos (c := fun i => ofR (C i)) x y, ?_⟩
   conv => whnf
   refine ⟨_, n1, ?_⟩
   conv => whnf
   exact ⟨rfl, Sub.refl _⟩
 ·have h := of_decide_eq_true (gwf' h)
  have a1 := a1 (by omega)
  have a2 := a2 (by omega)
  conv => whnf
  refine ⟨_, a1, ?_⟩
  conv => whnf
  refine ⟨_, a2, ?_⟩
  conv => whnf
  refine ⟨_, a4, ?_⟩
  conv => whnf
  refine ⟨by show i + 1 ≤ 16777216; omega, fun x y hx hy => one_nq (C i) _ x y hx hy, ?_⟩
  conv => whnf
  refine ⟨i64 (by omega) (by omega), ?_⟩
  conv => whnf
  refine ⟨i + 1, by omega, Weak.gen [some 0] rfl ⟨⟨_, rfl, rfl, rfl, rfl, rfl, fun x y hx hy => regE ?_ (ql_clos (c := fun i => ofR (C i)) x y)⟩, trivial⟩ ⟨.inl ⟨_, _, rfl, rfl, fun _ _ _ _ => rfl⟩, .inl ⟨_, _, rfl, rfl, fun _ _ _ _ => rfl⟩, ⟨_, rfl, rfl, rfl⟩, ⟨_, rfl, rfl⟩, trivial⟩, by omega⟩
  exact appG (sz := 4) (g := fun k => nq (C k)) (g' := fun k => nq (C k)) (l := nq (C i)) (app_sameq C i x) (Nat.le_refl (i + 1)) hx
end Rf
end Go.Proofs.YtmbejakmeijcbaaGreat
/- The document's division of polynomials over the rational numbers by a monic one. -/
namespace Go.Proofs.YtmbejakmeijcbaaGreat
open Go.RowKit
namespace Rf
set_option maxHeartbeats 4000000 in
theorem normal6_m {n : Nat} {q : Nat → RawR} {v : Nat → Rat} (hn : n ≤ 4096) (hv : ∀ i, i < n → (q i).val = v i) (hq : ∀ i, i < n → wq (q i)) (hl : ∀ i, i < n → qlen (v i) ≤ 524286) : FnM Tryz.prog false 82 phB [.c (ql n q)] (.c (.sl 1 0 4 0 (Q.tq v n))) phB [qB n fun i => ofR (v i)] := by
 have h1 : ∀ i, i < n → FnOK Tryz.prog false 120 [.g (rr (q i))] (.g (nq (v i))) := fun i hi => by
  rw [← hv i hi]
  exact rqnormal_ok (hq i hi)
 have h2 : ∀ i, i < n → FnOK Tryz.prog false 52 [.g (nq (v i))] (.c (.int .i64 (v i).num.sign)) := fun i hi => rqsign_n (hl i hi)
 clear hv hq hl
 refine fnm_ok (E := E0m) E0m_ok Tryz.func82 rfl mixed (by kernel_rfl) (by kernel_rfl) rfl ?_
 conv => whnf
 refine loop_ints1 (fun i : Nat => gst1 [(0, .c (ql n q)), (3, .c (.gs 1 0)), (4, .c (.int .i64 i))] [gqr i fun k => ofR (v k)]) (fun i => n - i) (fun i => i ≤ n) 0 rfl (Weak.gen1 [none] rfl rfl ⟨rfl, trivial⟩ ⟨.inl ⟨_, _, rfl, rfl, fun _ _ _ _ => rfl⟩, rfl, ⟨_, rfl, rfl⟩, trivial⟩) (Nat.zero_le _) fun i hi => ?_
 conv => whnf
 refine bcase (fun (h : decide ((i : Int) < n) = true) => ?_) fun (h : decide ((i : Int) < n) = false) => ?_
 ·have h := of_decide_eq_true h
  have g1 := h1 i (by omega)
  conv => whnf
  refine ⟨by omega, ?_⟩
  conv => whnf
  refine ⟨by omega, ?_⟩
  conv => whnf
  refine ⟨_, g1, ?_⟩
  conv => whnf
  refine ⟨by show i + 1 ≤ 16777216; omega, fun x y hx hy => one_nq (v i) _ x y hx hy, ?_⟩
  conv => whnf
  refine ⟨i64 (by omega) (by omega), ?_⟩
  conv => whnf
  refine ⟨i + 1, by omega, Weak.gen1 [some 1] rfl rfl ⟨⟨_, rfl, rfl, rfl, rfl, rfl, fun j k hj hk => ?_⟩, trivial⟩ ⟨.inl ⟨_, _, rfl, rfl, fun _ _ _ _ => rfl⟩, ⟨_, rfl, rfl, rfl⟩, ⟨_, rfl, rfl⟩, trivial⟩, by omega⟩
  exact regE (appG (sz := 4) (g := fun i => nq (v i)) (g' := fun i => nq (v i)) (l := nq (v i)) (app_sameq v i j) (Nat.le_refl (i + 1)) hj) (ql_clos (c := fun i => ofR (v i)) j k)
 ·have h := of_decide_eq_false h
  have e : i = n := by omega
  conv => whnf
  refine loop_ints1 (fun m : Nat => gst1 [(3, .c (.gs 1 0)), (5, .c (.int .i64 m))] [gqr i fun k => ofR (v k)]) (fun m => m) (fun m => m ≤ i ∧ Q.tq v m = Q.tq v i) i rfl (Weak.gen1 [some 1] rfl rfl ⟨⟨_, rfl, rfl, rfl, rfl, rfl, fun j k hj hk => regE rfl (ql_clos (c := fun i => ofR (v i)) j k)⟩, trivial⟩ ⟨⟨_, rfl, rfl, rfl⟩, ⟨_, rfl, rfl⟩, trivial⟩) ⟨Nat.le_refl _, rfl⟩ fun m ⟨hm, ht⟩ => ?_
  conv => whnf
  refine bcase (fun (h : gw true (decide ((0 : Int) < m)) = true) => ?_) fun (h : gw true (decide ((0 : Int) < m)) = false) => ?_
  ·have h := of_decide_eq_true (gw_true.1 h)
   have ek : ((m : Int) - 1).toNat = m - 1 := by omega
   have hs := h2 ((m : Int) - 1).toNat (by omega)
   have hz : v ((m : Int) - 1).toNat = 0 → Q.tq v (m - 1) = Q.tq v i := fun h => by
    rw [← ht]
    obtain ⟨k, rfl⟩ : ∃ k, m = k + 1 := ⟨m - 1, by omega⟩
    rw [ek] at h
    show Q.tq v k = _
    simp only [Q.tq, Nat.add_sub_cancel] at h ⊢
    rw [if_pos h]
   have hz' : v ((m : Int) - 1).toNat ≠ 0 → m = Q.tq v n := fun h => by
    rw [← e, ← ht]
    obtain ⟨k, rfl⟩ : ∃ k, m = k + 1 := ⟨m - 1, by omega⟩
    rw [ek] at h
    simp only [Q.tq, Nat.add_sub_cancel] at h ⊢
    rw [if_neg h]
   conv => whnf
   refine ⟨i64 (by omega) (by omega), ?_⟩
   conv => whnf
   refine ⟨by omega, ?_⟩
   conv => whnf
   refine ⟨by show ((m : Int) - 1) < (i : Int); omega, ?_⟩
   conv => whnf
   refine ⟨_, hs, ?_⟩
   conv => whnf
   refine bcase (fun (h3 : decide ((v ((m : Int) - 1).toNat).num.sign = 0) = true) => ?_) fun (h3 : decide ((v ((m : Int) - 1).toNat).num.sign = 0) = false) => ?_
   ·have h3 := Rat.num_eq_zero.1 (Int.sign_eq_zero_iff_zero.1 (of_decide_eq_true h3))
    have g3 := hz h3
    conv => whnf
    refine ⟨i64 (by omega) (by omega), ?_⟩
    conv => whnf
    exact ⟨m - 1, by omega, Weak.gen1 [some 1] rfl rfl ⟨⟨_, rfl, rfl, rfl, rfl, rfl, fun j k hj hk => regE rfl (ql_clos (c := fun i => ofR (v i)) j k)⟩, trivial⟩ ⟨⟨_, rfl, rfl, rfl⟩, ⟨_, rfl, by omega⟩, trivial⟩, by omega, g3⟩
   ·have h3 := hz' fun e => of_decide_eq_false h3 (by rw [e]; rfl)
    conv => whnf
    refine ⟨by omega, by omega, ?_⟩
    conv => whnf
    refine ⟨by show (m : Int) ≤ (i : Int); omega, ?_⟩
    conv => whnf
    refine Weak.gen1 (tl := [(0, .c (.sl 1 0 4 0 (Q.tq v n)))]) (xs := [gqr n fun i => ofR (v i)]) [some 1] rfl rfl ?_ ?_
    ·exact ⟨⟨_, rfl, rfl, rfl, e, rfl, fun j k hj hk => regE rfl (ql_clos (c := fun i => ofR (v i)) j k)⟩, trivial⟩
    ·exact ⟨⟨_, _, rfl, rfl, rfl, by show ((m : Int) - 0).toNat = _; omega⟩, trivial⟩
  ·have h : ¬ (0 : Int) < m := of_decide_eq_false (gw_false.1 h)
   have h3 : Q.tq v n = 0 := by rw [← e, ← ht]; rw [show m = 0 by omega]; rfl
   conv => whnf
   refine ⟨by omega, by omega, ?_⟩
   conv => whnf
   refine ⟨by show (m : Int) ≤ (i : Int); omega, ?_⟩
   conv => whnf
   refine Weak.gen1 (tl := [(0, .c (.sl 1 0 4 0 (Q.tq v n)))]) (xs := [gqr n fun i => ofR (v i)]) [some 1] rfl rfl ?_ ?_
   ·exact ⟨⟨_, rfl, rfl, rfl, e, rfl, fun j k hj hk => regE rfl (ql_clos (c := fun i => ofR (v i)) j k)⟩, trivial⟩
   ·exact ⟨⟨_, _, rfl, rfl, rfl, by show ((m : Int) - 0).toNat = _; omega⟩, trivial⟩
set_option maxHeartbeats 4000000 in
theorem divide6_short {n0 n d : Nat} {q : Nat → RawR} {v f : Nat → Rat} (hv : ∀ i, i < n0 → (q i).val = v i) (hn0 : n0 ≤ 1024) (hq : ∀ i, i < n0 → wq (q i)) (hl : ∀ i, i < n0 → qlen (v i) ≤ 524286) (ht : Q.tq v n0 = n) (hnd : n ≤ d) (hg : ∀ j, qlen (f j) ≤ 65535) (hf : Q.Mon d f) (hd : d ≤ 1024) : FnOK Tryz.prog false 69 [.c (ql n0 q), .c (nql (d + 1) f)] (.t2 (.c .nil) (.c (nql n v))) := by
 have hN0 := normal6_ok (by omega) hv hq hl
 rw [ht] at hN0
 have hB := normal6_ok (n := d + 1) (q := fun i => ofR (f i)) (v := f) (by omega) (fun i _ => ofR_val _) (fun i _ => wq_n (by have := hg i; omega)) fun i _ => by have := hg i; omega
 rw [Q.tq_self (n := d + 1) (v := f) fun k hk => by rw [show k = d by omega, hf.top]; decide] at hB
 clear hv hq hl ht hg hf
 refine fn_ok (E := E0) E0_ok Tryz.func69 rfl mixed (by kernel_rfl) (by kernel_rfl) ?_
 conv => whnf
 refine .inr ?_
 conv => whnf
 refine ⟨_, hN0, ?_⟩
 conv => whnf
 refine .inr ?_
 conv => whnf
 refine ⟨_, hB, ?_⟩
 conv => whnf
 refine bpos (show decide ((n : Int) < ((d + 1 : Nat) : Int)) = true from decide_eq_true (by omega)) ?_
 conv => whnf
 exact ⟨rfl, Sub.refl _⟩
set_option maxHeartbeats 16000000 in
theorem divide6_long {n0 n d : Nat} {q : Nat → RawR} {v f : Nat → Rat} (hf : Q.Mon d f) (hn0 : n0 ≤ 1024) (hv : ∀ i, i < n0 → (q i).val = v i) (hq : ∀ i, i < n0 → wq (q i)) (hl : ∀ i, i < n0 → qlen (v i) ≤ 524286) (ht : Q.tq v n0 = n) (hnd : d < n) (hs : ∀ t k, t ≤ n - d → qlen (Q.dvs d f (n - d) v t k) ≤ 65535) (hg : ∀ j, qlen (f j) ≤ 65535) : FnOK Tryz.prog false 69 [.c (ql n0 q), .c (nql (d + 1) f)] (.t2 (.c (nql (Q.tq (Q.dvq d f (n - d) v) (n - d)) (Q.dvq d f (n - d) v))) (.c (nql (Q.tq (Q.dvs d f (n - d) v (n - d)) n) (Q.dvs d f (n - d) v (n - d))))) := by
 have hN0 := normal6_m (by omega) hv hq hl
 have hnn := Q.tq_le v n0
 rw [ht] at hN0 hnn
 have hB := normal6_ok (n := d + 1) (q := fun i => ofR (f i)) (v := f) (by omega) (fun i _ => ofR_val _) (fun i _ => wq_n (by have := hg i; omega)) fun i _ => by have := hg i; omega
 rw [Q.tq_self (n := d + 1) (v := f) fun k hk => by rw [show k = d by omega, hf.top]; decide] at hB
 obtain ⟨N, hN⟩ : ∃ N, N = n - d := ⟨_, rfl⟩
 rw [← hN] at hs ⊢
 have ft := hf.top
 have q1 : ∀ t k, t ≤ N → FnOK Tryz.prog false 103 [.g (nq (Q.dvs d f N v t k)), .g (nq (f d))] (.g (nq (Q.dvs d f N v t k))) := fun t k h => by
  rw [ft]
  have := rqratio_n (x := Q.dvs d f N v t k) (y := 1) (by have := hs t k h; omega) (by decide)
  rwa [show Q.dvs d f N v t k / 1 = Q.dvs d f N v t k by grind] at this
 have p1 : ∀ i j, i < N → FnOK Tryz.prog false 84 [.g (nq (Q.dvq d f N v i)), .g (nq (f j))] (.g (nq (Q.dvq d f N v i * f j))) := fun i j hi => rqmul_n (hs (N - 1 - i) (i + d) (by omega)) (hg j)
 have s1 : ∀ i j, i < N → FnOK Tryz.prog false 104 [.g (nq (Q.dpt (Q.dvq d f N v i) f (Q.dvs d f N v (N - (i + 1))) i j (i + j))), .g (nq (Q.dvq d f N v i * f j))] (.g (nq (Q.dvs d f N v (N - (i + 1)) (i + j) - Q.dvq d f N v i * f j))) := fun i j hi => by
  rw [Q.dpt_old]
  have k1 : qlen (Q.dvq d f N v i) ≤ 65535 := hs (N - 1 - i) (i + d) (by omega)
  exact rqsub_n (by have := hs (N - (i + 1)) (i + j) (by omega); omega) (qlen_mul k1 (hg j) (by decide))
 have w1 : ∀ i, i < N → ∀ k, Q.dpt (Q.dvq d f N v i) f (Q.dvs d f N v (N - (i + 1))) i (d + 1) k = Q.dvs d f N v (N - i) k := fun i hi k => by
  have := Q.dpt_all hf.fin (N := N) (p := v) (t := N - (i + 1)) k
  rw [show N - 1 - (N - (i + 1)) = i by omega, show N - (i + 1) + 1 = N - i by omega] at this
  rw [← this]
  unfold Q.dvq
  rw [show N - 1 - i = N - (i + 1) by omega]
 have w3 := fun i j k => Q.dpt_next (Q.dvq d f N v i) f (Q.dvs d f N v (N - (i + 1))) i j k
 have w4 := fun i k => Q.dpt_zero (Q.dvq d f N v i) f (Q.dvs d f N v (N - (i + 1))) i k
 have e1 : ∀ i, i < N → Q.dvs d f N v (N - (i + 1)) (i + d) = Q.dvq d f N v i := fun i hi => by
  unfold Q.dvq
  rw [show N - 1 - i = N - (i + 1) by omega]
 have hT1 := normal6_ok (n := N) (q := qm (Q.dvq d f N v) 0) (v := Q.dvq d f N v) (by omega) (fun i _ => by rw [qm_zero]; exact ofR_val _) (fun i hi => by rw [qm_zero]; exact wq_n (by have := hs (N - 1 - i) (i + d) (by omega); have h2 : qlen (Q.dvq d f N v i) ≤ 65535 := this; omega)) fun i hi => by have := hs (N - 1 - i) (i + d) (by omega); have h2 : qlen (Q.dvq d f N v i) ≤ 65535 := this; omega
 have hT2 := normal6_ok (n := n) (q := fun x => ofR (Q.dvs d f N v N x)) (v := Q.dvs d f N v N) (by omega) (fun i _ => ofR_val _) (fun i _ => wq_n (by have := hs N i (Nat.le_refl _); omega)) fun i _ => by have := hs N i (Nat.le_refl _); omega
 have hT2 : FnOK Tryz.prog false 82 [.c (.row 4 n fun x j => qlF (fun x => ofR (Q.dvs d f N v (N - 0) x)) (0 + x) j)] (.c (nql (Q.tq (Q.dvs d f N v N) n) (Q.dvs d f N v N))) := arg_ok hT2 fun D w vs h => by
  match vs, h with
  | [v1], ⟨h1, _⟩ => exact ⟨subRowG rfl (fun x j hx hj => by rw [Nat.zero_add]; rfl) D w v1 h1, trivial⟩
 clear hs hg ht hv hq hl
 refine fn_okS (E := E0) E0_ok Tryz.func69 rfl (by kernel_rfl) ?_
 refine swp_seq0 E0_ok mixed (by kernel_rfl) ?_
 conv => whnf
 refine swp_seq0 E0_ok mixed (by kernel_rfl) ?_
 conv => whnf
 refine .inl ⟨[], true, ?_⟩
 conv => whnf
 refine ⟨0, phB, [.c (ql n0 q)], _, _, _, hN0, rfl, .inr (Nat.le_refl 2), fun h => absurd h (by decide), fun h => absurd h (by decide), fun F' hF' => ?_, rfl, rfl, ?_⟩
 ·simp at hF'; subst hF'; exact qB_plain _ _
 conv => whnf
 refine .inr ?_
 conv => whnf
 refine ⟨_, hB, ?_⟩
 conv => whnf
 refine swp_seq0 E0_ok mixed (by kernel_rfl) ?_
 conv => whnf
 refine bneg (show decide ((n : Int) < ((d + 1 : Nat) : Int)) = false from decide_eq_false (by omega)) ?_
 conv => whnf
 refine swp_seq0 E0_ok mixed (by kernel_rfl) ?_
 conv => whnf
 refine ⟨i64 (by omega) (by omega), ?_⟩
 conv => whnf
 refine ⟨i64 (by omega) (by omega), ?_⟩
 conv => whnf
 refine ⟨by omega, Int.le_refl _, by omega, by show (64 : Int) * ((n : Int) - ((d + 1 : Nat) : Int) + 1) ≤ 281474976710656; omega, ?_⟩
 have eN : ((n : Int) - ((d + 1 : Nat) : Int) + 1).toNat = N := by omega
 conv => whnf
 refine swp_seqS ?_
 refine swp_seq0 E0_ok mixed (by kernel_rfl) ?_
 conv => whnf
 refine ⟨i64 (by omega) (by omega), ?_⟩
 conv => whnf
 refine swp_block ?_
 refine swp_loop (fun k : Nat => gst [(7, .c (nql (d + 1) f)), (8, .c (.gs 1 0)), (6, .c (.sl 0 0 4 0 n)), (9, .c (.int .i64 ((k : Int) - 1)))] [gqr n0 fun x => ofR (Q.dvs d f N v (N - k) x), gqr N (qm (Q.dvq d f N v) k)]) (fun k => k) (fun k => k ≤ N) N ?_ (Nat.le_refl _) fun k hk => ?_
 ·refine Weak.gen [some 1, some 2] rfl ⟨⟨_, rfl, rfl, rfl, rfl, rfl, fun x j hx hj => regE (qlF_eq (c := fun x => ofR (v x)) (e := fun x => ofR (Q.dvs d f N v (N - N) x)) (i := x) (k := x) (congrArg ofR (by rw [Nat.sub_self]; rfl))) (ql_clos (c := fun x => ofR (Q.dvs d f N v (N - N) x)) x j)⟩, ⟨_, rfl, rfl, rfl, eN, rfl, fun x j hx hj => ?_⟩, trivial⟩ ⟨.inl ⟨_, _, rfl, rfl, fun _ _ _ _ => rfl⟩, ⟨_, rfl, rfl, rfl⟩, ⟨_, _, rfl, rfl, rfl, rfl⟩, ⟨_, rfl, by show (n : Int) - ((d + 1 : Nat) : Int) = (N : Int) - 1; omega⟩, trivial⟩
  show regC 0 _ _ (qlF (qm (Q.dvq d f N v) N) x j) _
  have hx : x < N := hx
  unfold qlF
  rw [qm_top hx]
  match j, hj with
  | 0, _ => exact ⟨_, rfl, rfl⟩
  | 1, _ => exact .inr (.inl ⟨rfl, rfl⟩)
  | 2, _ => exact ⟨_, rfl, rfl⟩
  | 3, _ => exact .inr (.inl ⟨rfl, rfl⟩)
 refine swp_seq0 E0_ok mixed (by kernel_rfl) ?_
 conv => whnf
 refine bcase (fun (h : decide ((0 : Int) ≤ (k : Int) - 1) = true) => ?_) fun (h : decide ((0 : Int) ≤ (k : Int) - 1) = false) => ?_
 ·have h := of_decide_eq_true h
  obtain ⟨i, hi0⟩ : ∃ i, i = ((k : Int) - 1).toNat := ⟨_, rfl⟩
  have hk1 : k = i + 1 := by omega
  subst hk1
  have hiN : i < N := by omega
  have ei : (((i + 1 : Nat) : Int) - 1).toNat = i := by omega
  have g1 : FnOK Tryz.prog false 103 [.g (nq (Q.dvs d f N v (N - (i + 1)) (0 + (((i + 1 : Nat) : Int) - 1 + ((d + 1 : Nat) : Int) - 1).toNat))), .g (nq (f (((d + 1 : Nat) : Int) - 1).toNat))] (.g (nq (Q.dvq d f N v i))) := by
   have := q1 (N - (i + 1)) (i + d) (by omega)
   rw [e1 i hiN] at this
   rw [show 0 + (((i + 1 : Nat) : Int) - 1 + ((d + 1 : Nat) : Int) - 1).toNat = i + d by omega, show (((d + 1 : Nat) : Int) - 1).toNat = d by omega, e1 i hiN]
   exact this
  conv => whnf
  refine swp_seqS (swp_block ?_)
  refine swp_seq E0_ok mixed (by kernel_rfl) ?_
  conv => whnf
  refine ⟨i64 (by omega) (by omega), ?_⟩
  conv => whnf
  refine ⟨i64 (by omega) (by omega), ?_⟩
  conv => whnf
  refine ⟨by omega, ?_⟩
  conv => whnf
  refine ⟨by show ((i + 1 : Nat) : Int) - 1 + ((d + 1 : Nat) : Int) - 1 < (n : Int); omega, ?_⟩
  conv => whnf
  refine ⟨i64 (by omega) (by omega), ?_⟩
  conv => whnf
  refine ⟨by omega, by omega, ?_⟩
  conv => whnf
  refine ⟨_, g1, ?_⟩
  conv => whnf
  refine ⟨gst [(7, .c (nql (d + 1) f)), (8, .c (.gs 1 0)), (6, .c (.sl 0 0 4 0 n)), (9, .c (.int .i64 (((i + 1 : Nat) : Int) - 1))), (10, .c (.p 2 0 4 0 0))] [gqr n0 fun x => ofR (Q.dvs d f N v (N - (i + 1)) x), gqr N (qm (Q.dvq d f N v) (i + 1)), ⟨46, 4, 1, boxF (nq (Q.dvq d f N v i))⟩], Weak.gen [some 0, some 1, some 17] rfl ⟨⟨_, rfl, rfl, rfl, rfl, rfl, fun x j hx hj => regE rfl (ql_clos (c := fun x => ofR (Q.dvs d f N v (N - (i + 1)) x)) x j)⟩, ⟨_, rfl, rfl, rfl, rfl, rfl, fun x j hx hj => regE rfl (ql_clos (c := qm (Q.dvq d f N v) (i + 1)) x j)⟩, boxU rfl rfl rfl, trivial⟩ ⟨.inl ⟨_, _, rfl, rfl, fun _ _ _ _ => rfl⟩, ⟨_, rfl, rfl, rfl⟩, ⟨_, _, rfl, rfl, rfl, rfl⟩, ⟨_, rfl, rfl⟩, ⟨_, rfl, rfl, rfl⟩, trivial⟩, ?_⟩
  refine swp_seq E0_ok mixed (by kernel_rfl) ?_
  conv => whnf
  refine ⟨by omega, by show ((i + 1 : Nat) : Int) - 1 < (N : Int); omega, ?_⟩
  conv => whnf
  refine ⟨gst [(7, .c (nql (d + 1) f)), (8, .c (.gs 1 0)), (6, .c (.sl 0 0 4 0 n)), (9, .c (.int .i64 (((i + 1 : Nat) : Int) - 1))), (10, .c (.p 2 0 4 0 0))] [gqr n0 fun x => ofR (Q.dvs d f N v (N - (i + 1)) x), gqr N (qm (Q.dvq d f N v) i), ⟨46, 4, 1, boxF (nq (Q.dvq d f N v i))⟩], Weak.gen [some 0, some 1, some 2] rfl ⟨⟨_, rfl, rfl, rfl, rfl, rfl, fun x j hx hj => regE rfl (ql_clos (c := fun x => ofR (Q.dvs d f N v (N - (i + 1)) x)) x j)⟩, ⟨_, rfl, rfl, rfl, rfl, rfl, fun x j hx hj => regE ?_ (ql_clos (c := qm (Q.dvq d f N v) i) x j)⟩, boxK rfl rfl, trivial⟩ ⟨.inl ⟨_, _, rfl, rfl, fun _ _ _ _ => rfl⟩, ⟨_, rfl, rfl, rfl⟩, ⟨_, _, rfl, rfl, rfl, rfl⟩, ⟨_, rfl, rfl⟩, ⟨_, rfl, rfl, rfl⟩, trivial⟩, ?_⟩
  ·exact updG (sz := 4) (g := fun x => rr (qm (Q.dvq d f N v) (i + 1) x)) (g' := fun x => rr (qm (Q.dvq d f N v) i x)) (l := nq (Q.dvq d f N v i)) rfl hj (by rw [ei]; exact qm_next _ i x)
  refine swp_of E0_ok mixed (by kernel_rfl) ?_
  conv => whnf
  refine loop_ints (fun j : Nat => gst [(7, .c (nql (d + 1) f)), (8, .c (.gs 1 0)), (6, .c (.sl 0 0 4 0 n)), (9, .c (.int .i64 (((i + 1 : Nat) : Int) - 1))), (10, .c (.p 2 0 4 0 0)), (11, .c (.int .i64 j))] [gqr n0 fun x => ofR (Q.dpt (Q.dvq d f N v i) f (Q.dvs d f N v (N - (i + 1))) i j x), gqr N (qm (Q.dvq d f N v) i), ⟨46, 4, 1, boxF (nq (Q.dvq d f N v i))⟩]) (fun j => d + 1 - j) (fun j => j ≤ d + 1) 0 rfl (Weak.gen [some 0, some 1, some 2] rfl ⟨⟨_, rfl, rfl, rfl, rfl, rfl, fun x j hx hj => regE (qlF_eq (c := fun x => ofR (Q.dvs d f N v (N - (i + 1)) x)) (e := fun x => ofR (Q.dpt (Q.dvq d f N v i) f (Q.dvs d f N v (N - (i + 1))) i 0 x)) (i := x) (k := x) (congrArg ofR (w4 i x).symm)) (ql_clos (c := fun x => ofR (Q.dpt (Q.dvq d f N v i) f (Q.dvs d f N v (N - (i + 1))) i 0 x)) x j)⟩, ⟨_, rfl, rfl, rfl, rfl, rfl, fun x j hx hj => regE rfl (ql_clos (c := qm (Q.dvq d f N v) i) x j)⟩, boxK rfl rfl, trivial⟩ ⟨.inl ⟨_, _, rfl, rfl, fun _ _ _ _ => rfl⟩, ⟨_, rfl, rfl, rfl⟩, ⟨_, _, rfl, rfl, rfl, rfl⟩, ⟨_, rfl, rfl⟩, ⟨_, rfl, rfl, rfl⟩, ⟨_, rfl, rfl⟩, trivial⟩) (Nat.zero_le _) fun j hj => ?_
  have u1 := p1 i j hiN
  have ej : 0 + (((i + 1 : Nat) : Int) - 1 + (j : Int)).toNat = i + j := by omega
  have u2 : FnOK Tryz.prog false 104 [.g (nq (Q.dpt (Q.dvq d f N v i) f (Q.dvs d f N v (N - (i + 1))) i j (0 + (((i + 1 : Nat) : Int) - 1 + (j : Int)).toNat))), .g (nq (Q.dvq d f N v i * f j))] (.g (nq (Q.dvs d f N v (N - (i + 1)) (i + j) - Q.dvq d f N v i * f j))) := by
   rw [ej]
   exact s1 i j hiN
  have u3 := w3 i j
  have u4 := w1 i hiN
  conv => whnf
  refine bcase (fun (h4 : decide ((j : Int) < ((d + 1 : Nat) : Int)) = true) => ?_) fun (h4 : decide ((j : Int) < ((d + 1 : Nat) : Int)) = false) => ?_
  ·have h4 := of_decide_eq_true h4
   conv => whnf
   refine ⟨i64 (by omega) (by omega), ?_⟩
   conv => whnf
   refine ⟨i64 (by omega) (by omega), ?_⟩
   conv => whnf
   refine ⟨by omega, ?_⟩
   conv => whnf
   refine ⟨by show ((i + 1 : Nat) : Int) - 1 + (j : Int) < (n : Int); omega, ?_⟩
   conv => whnf
   refine ⟨by omega, by omega, ?_⟩
   conv => whnf
   refine ⟨_, u1, ?_⟩
   conv => whnf
   refine ⟨_, u2, ?_⟩
   conv => whnf
   refine ⟨by omega, ?_⟩
   conv => whnf
   refine ⟨by show ((i + 1 : Nat) : Int) - 1 + (j : Int) < (n : Int); omega, ?_⟩
   conv => whnf
   refine ⟨i64 (by omega) (by omega), ?_⟩
   conv => whnf
   refine ⟨j + 1, by omega, Weak.gen [some 0, some 1, some 2] rfl ⟨⟨_, rfl, rfl, rfl, rfl, rfl, fun x y hx hy => regE ?_ (ql_clos (c := fun x => ofR (Q.dpt (Q.dvq d f N v i) f (Q.dvs d f N v (N - (i + 1))) i (j + 1) x)) x y)⟩, ⟨_, rfl, rfl, rfl, rfl, rfl, fun x j hx hj => regE rfl (ql_clos (c := qm (Q.dvq d f N v) i) x j)⟩, boxK rfl rfl, trivial⟩ ⟨.inl ⟨_, _, rfl, rfl, fun _ _ _ _ => rfl⟩, ⟨_, rfl, rfl, rfl⟩, ⟨_, _, rfl, rfl, rfl, rfl⟩, ⟨_, rfl, rfl⟩, ⟨_, rfl, rfl, rfl⟩, ⟨_, rfl, rfl⟩, trivial⟩, by omega⟩
   exact updG (sz := 4) (g := fun x => nq (Q.dpt (Q.dvq d f N v i) f (Q.dvs d f N v (N - (i + 1))) i j x)) (g' := fun x => nq (Q.dpt (Q.dvq d f N v i) f (Q.dvs d f N v (N - (i + 1))) i (j + 1) x)) (l := nq (Q.dvs d f N v (N - (i + 1)) (i + j) - Q.dvq d f N v i * f j)) rfl hy (by
    show (if x = 0 + (((i + 1 : Nat) : Int) - 1 + (j : Int)).toNat then nq (Q.dvs d f N v (N - (i + 1)) (i + j) - Q.dvq d f N v i * f j) else nq (Q.dpt (Q.dvq d f N v i) f (Q.dvs d f N v (N - (i + 1))) i j x)) = nq (Q.dpt (Q.dvq d f N v i) f (Q.dvs d f N v (N - (i + 1))) i (j + 1) x)
    rw [ej, ← u3 x]
    split <;> rfl)
  ·have h4 := of_decide_eq_false h4
   have e : j = d + 1 := by omega
   conv => whnf
   refine swp_of E0_ok mixed (by kernel_rfl) ?_
   conv => whnf
   refine ⟨i64 (by omega) (by omega), ?_⟩
   conv => whnf
   exact ⟨i, by omega, Weak.gen [some 0, some 1] rfl ⟨⟨_, rfl, rfl, rfl, rfl, rfl, fun x y hx hy => regE (qlF_eq (c := fun x => ofR (Q.dpt (Q.dvq d f N v i) f (Q.dvs d f N v (N - (i + 1))) i j x)) (e := fun x => ofR (Q.dvs d f N v (N - i) x)) (i := x) (k := x) (congrArg ofR (by rw [e]; exact u4 x))) (ql_clos (c := fun x => ofR (Q.dvs d f N v (N - i) x)) x y)⟩, ⟨_, rfl, rfl, rfl, rfl, rfl, fun x j hx hj => regE rfl (ql_clos (c := qm (Q.dvq d f N v) i) x j)⟩, trivial⟩ ⟨.inl ⟨_, _, rfl, rfl, fun _ _ _ _ => rfl⟩, ⟨_, rfl, rfl, rfl⟩, ⟨_, _, rfl, rfl, rfl, rfl⟩, ⟨_, rfl, by omega⟩, trivial⟩, by omega⟩
 ·have h := of_decide_eq_false h
  have hk0 : k = 0 := by omega
  subst hk0
  conv => whnf
  refine swp_of E0_ok mixed (by kernel_rfl) ?_
  conv => whnf
  refine .inr ⟨fun x j _ _ => ql_clos (c := qm (Q.dvq d f N v) 0) x j, ?_⟩
  conv => whnf
  refine ⟨_, hT1, ?_⟩
  conv => whnf
  refine .inr ⟨fun x j _ _ => ql_clos (c := fun x => ofR (Q.dvs d f N v (N - 0) x)) x j, ?_⟩
  conv => whnf
  refine ⟨_, hT2, ?_⟩
  conv => whnf
  exact ⟨rfl, Sub.refl _⟩
end Rf
end Go.Proofs.YtmbejakmeijcbaaGreat
/- Rows of fractions: zeros, normal forms. -/
namespace Go.Proofs.YtmbejakmeijcbaaGreat
open Go.RowKit
def rows (sz n : Nat) (g : Nat → List Cell) : V := .c (.row sz n fun i j => (g i).getD j .any)
structure Filled (n i : Nat) (g : Nat → List Cell) (f : Nat → Nat → Cell) : Prop where
 done : ∀ i' j, i' < i → j < 4 → f i' j = (g i').getD j .any
 clos : ∀ i' j, i' < n → j < 4 → (f i' j).clos = true
end Go.Proofs.YtmbejakmeijcbaaGreat
/- Rows that are written: combine; vectors times rows. -/
namespace Go.Proofs.YtmbejakmeijcbaaGreat
open Go.RowKit
end Go.Proofs.YtmbejakmeijcbaaGreat
/- Matrices: rows put one behind the other. -/
namespace Go.Proofs.YtmbejakmeijcbaaGreat
open Go.RowKit
end Go.Proofs.YtmbejakmeijcbaaGreat
/- Package charpoly: the first errors. -/
namespace Go.Proofs.YtmbejakmeijcbaaGreat
open Go.RowKit
end Go.Proofs.YtmbejakmeijcbaaGreat
/- Rows of rows: blank. -/
namespace Go.Proofs.YtmbejakmeijcbaaGreat
open Go.RowKit
end Go.Proofs.YtmbejakmeijcbaaGreat
/- Package matrix: New. -/
namespace Go.Proofs.YtmbejakmeijcbaaGreat
open Go.RowKit
end Go.Proofs.YtmbejakmeijcbaaGreat
/- Matrices in the program: rows stored. -/
namespace Go.Proofs.YtmbejakmeijcbaaGreat
open Go.RowKit
namespace Rf
end Rf
end Go.Proofs.YtmbejakmeijcbaaGreat
/- Matrices in the program: rows loaded. -/
namespace Go.Proofs.YtmbejakmeijcbaaGreat
open Go.RowKit
namespace Rf
structure Grd (m : Nat) (G : Nat → Nat → Rat) (F C : Nat → Nat → Cell) : Prop where
 old : ∀ i k, k < i → F i k = nql m (G k)
 new : ∀ i k, i ≤ k → F i k = .nil
 old' : ∀ i k, k < i → C i k = nql m (G k)
 at' : ∀ i, C i i = .gs 2 0
 new' : ∀ i k, i < k → C i k = .nil
end Rf
end Go.Proofs.YtmbejakmeijcbaaGreat
/- Matrices in the program: from rows; the matrix of a multiplication. -/
namespace Go.Proofs.YtmbejakmeijcbaaGreat
open Go.RowKit
namespace Rf
end Rf
end Go.Proofs.YtmbejakmeijcbaaGreat
/- Matrices in the program, whatever fractions their elements are: rows loaded. -/
namespace Go.Proofs.YtmbejakmeijcbaaGreat
open Go.RowKit
namespace Rf
end Rf
end Go.Proofs.YtmbejakmeijcbaaGreat
/- Matrices in the program, whatever fractions their elements are: products. -/
namespace Go.Proofs.YtmbejakmeijcbaaGreat
open Go.RowKit
namespace Rf
end Rf
end Go.Proofs.YtmbejakmeijcbaaGreat
/- Matrices in the program, whatever fractions their elements are: sums, multiples. -/
namespace Go.Proofs.YtmbejakmeijcbaaGreat
open Go.RowKit
namespace Rf
end Rf
end Go.Proofs.YtmbejakmeijcbaaGreat
/- Number fields: sums, products and matrices of multiplications of bounded elements. -/
namespace Go.Proofs.YtmbejakmeijcbaaGreat
open Go.RowKit
namespace Rf
structure Ev (N : Nat) (q : Nat → RawR) (A : Nat → Rat) (D e : Nat) : Prop where
 val : Q.qx N (fun i => (q i).val) = A
 len : N ≤ 32
 fit : ∀ i, i < N → (q i).Fit KD
 bd : ∀ k, Bd D (2 ^ e) (A k)
structure Fk (n : Nat) (c : Nat → RawZ) (d : Nat) (f : Nat → Rat) : Prop where
 opn : FnOK Tryz.prog true 89 [.g [zl n c]] (.t2 (ringP d f) (.c (.int .i64 0)))
 fd : Fd d 255 f
theorem pow_B (L : Nat) : Dg.B ^ L = 2 ^ (32 * L) := (Nat.pow_mul 2 32 L).symm
theorem pow_lt_B {e L : Nat} (h : e < 32 * L) : 2 ^ e < Dg.B ^ L := by
 rw [pow_B]
 exact Nat.pow_lt_pow_right (by decide) h
theorem two_lt {e : Nat} (h : e ≤ 1000000) : 2 ^ e < Dg.B ^ KD := pow_lt_B (L := KD) (by show e < 32 * 1048576; omega)
theorem le_lim {D : Nat} (h : D ≤ 2 ^ 1000000) : D < Dg.B ^ KD := Nat.lt_of_le_of_lt h (two_lt (e := 1000000) (Nat.le_refl _))
theorem pow_c (a n : Nat) : 2 ^ a * (1 + 255) ^ n = 2 ^ (a + 8 * n) := by
 rw [show (1 + 255 : Nat) = 2 ^ 8 from rfl, ← Nat.pow_mul, ← Nat.pow_add]
theorem Ev.fin {N : Nat} {q : Nat → RawR} {A : Nat → Rat} {D e : Nat} (h : Ev N q A D e) : Q.Fin N A := by
 rw [← h.val]; exact Q.qx_fin _ _
theorem ev_n {d D e : Nat} {r : Nat → Rat} (hr : Q.Fin d r) (hd : d ≤ 12) (hb : ∀ k, Bd D (2 ^ e) (r k)) (h0 : 0 < D) (hD : D ≤ 2 ^ 1000000) (he : e ≤ 1000000) : Ev (Q.tq r d) (fun i => ofR (r i)) r D e :=
 ⟨by
  rw [show (fun i => (ofR (r i)).val) = r from funext fun i => ofR_val _]
  exact Q.qx_self (Q.tq_fin hr), by have := Q.tq_le r d; omega, fun i _ => ofR_fit (bd_fit (hb i) h0 (le_lim hD) (two_lt he)), hb⟩
theorem nAdd_e {n d N M D e : Nat} {c : Nat → RawZ} {f A B : Nat → Rat} {q p : Nat → RawR} (hk : Fk n c d f) (hA : Ev N q A D e) (hB : Ev M p B D e) (h0 : 0 < D) (hD : D ≤ 2 ^ 1000000) (he : e ≤ 100000) : ∃ r, Q.Rm d f (fun k => A k + B k) r ∧ Ev (Q.tq r d) (fun i => ofR (r i)) r D (e + 513) ∧ FnOK Tryz.prog true 87 [.g [zl n c], .c (ql N q), .c (ql M p)] (.t2 (.c (nql (Q.tq r d) r)) (.c (.int .i64 0))) := by
 have hw : (2 ^ e + 2 ^ e) * (1 + 255) ^ 64 = 2 ^ (e + 513) := by
  rw [← Nat.two_mul, ← Nat.pow_succ', pow_c]
 have hD' := le_lim hD
 obtain ⟨r, r1, r2, r3⟩ := radd_ok hk.fd hA.val hB.val hA.len hB.len hA.fit hB.fit h0 hD' hA.bd hB.bd (by rw [hw]; exact two_lt (by omega))
 rw [hw] at r2
 exact ⟨r, r1, ev_n r1.1 hk.fd.low r2 h0 hD (by omega), nAdd_ok hk.opn r3⟩
theorem two_mul_le {D D' a b : Nat} (h : D ≤ 2 ^ a) (h' : D' ≤ 2 ^ b) : D * D' ≤ 2 ^ (a + b) := by
 rw [Nat.pow_add]
 exact Nat.mul_le_mul h h'
end Rf
end Go.Proofs.YtmbejakmeijcbaaGreat
/- The law's test of a field: its list short, well-formed, of small degree and small coefficients. -/
namespace Go.Proofs.YtmbejakmeijcbaaGreat
open Go.RowKit
namespace Rf
end Rf
end Go.Proofs.YtmbejakmeijcbaaGreat
/- The law NumfieldField: its calls, one behind the other, and what they hand back. -/
namespace Go.Proofs.YtmbejakmeijcbaaGreat
open Go.RowKit
theorem su_bd {D B : Nat} {f : Nat → Rat} (h : ∀ i, Bd D B (f i)) : ∀ n, Bd D (n * B) (Q.su f n)
 | 0 => Bd.zero _ _
 | n + 1 => by
  rw [Nat.add_mul, Nat.one_mul]
  exact (su_bd h n).add (h n)
namespace Rf
theorem pow_le2 {a b : Nat} (h : a ≤ b) : 2 ^ a ≤ 2 ^ b := Nat.pow_le_pow_right (by decide) h
theorem le_pow {D a b : Nat} (h : D ≤ 2 ^ a) (e : a ≤ b) : D ≤ 2 ^ b := Nat.le_trans h (pow_le2 e)
theorem mul_le_pow {D E a b c : Nat} (h : D ≤ 2 ^ a) (h' : E ≤ 2 ^ b) (e : a + b = c) : D * E ≤ 2 ^ c := e ▸ two_mul_le h h'
theorem bd_doc {D e : Nat} {x : Rat} (h : Bd D (2 ^ e) x) (h0 : 0 < D) (hD : D ≤ 2 ^ 100000) (he : e ≤ 1000000) : qlen x ≤ 65535 :=
 h.len h0 (Nat.lt_of_le_of_lt hD (pow_lt_B (e := 100000) (L := 65535) (by decide))) (pow_lt_B (e := e) (L := 65535) (by omega)) (by decide)
end Rf
end Go.Proofs.YtmbejakmeijcbaaGreat
/- Substitutions x -> x^t from one quotient by a monic polynomial into another. No condition. -/
namespace Go.Proofs.YtmbejakmeijcbaaGreat
namespace Q
def sb (t m : Nat) (A : Nat → Rat) (j : Nat) : Rat := su (fun i => A i * xp (i * t) j) m
theorem sb_more {t n m : Nat} {A : Nat → Rat} (h : Fin n A) (hm : n ≤ m) (j : Nat) : sb t m A j = sb t n A j :=
 su_more (fun i hi => by rw [h i hi, Rat.zero_mul]) hm
theorem sb_any {t n n' m : Nat} {A : Nat → Rat} (h : Fin n A) (hn : n ≤ n') (hm : n ≤ m) (j : Nat) : sb t n' A j = sb t m A j := by
 rw [sb_more h hn, sb_more h hm]
theorem sb_congr {t m : Nat} {A B : Nat → Rat} (h : ∀ i, i < m → A i = B i) (j : Nat) : sb t m A j = sb t m B j :=
 su_congr fun i hi => by rw [h i hi]
theorem sb_add (t m : Nat) (A B : Nat → Rat) (j : Nat) : sb t m (fun i => A i + B i) j = sb t m A j + sb t m B j := by
 unfold sb
 rw [← su_add]
 exact su_congr fun i _ => Rat.add_mul _ _ _
theorem sb_fin (t m : Nat) (A : Nat → Rat) : Fin (m * t + 1) (sb t m A) := fun k hk => su_zero fun i hi => by
 have : i * t ≤ m * t := Nat.mul_le_mul_right t (by omega)
 rw [show xp (i * t) k = 0 from if_neg (by omega), Rat.mul_zero]
theorem sb_xp {t m k : Nat} (h : k < m) (j : Nat) : sb t m (xp k) j = xp (k * t) j := by
 have e := su_one (f := fun i => xp k i * xp (i * t) j) (t := k) h fun i _ hi => by
  show xp k i * _ = 0
  rw [show xp k i = 0 from if_neg hi, Rat.zero_mul]
 show su _ m = _
 rw [e]
 show xp k k * _ = _
 rw [show xp k k = 1 from if_pos rfl, Rat.one_mul]
theorem cf_zero_left (G : Nat → Rat) (k : Nat) : cf (fun _ => 0) G k = 0 := su_zero fun _ _ => Rat.zero_mul _
theorem cf_su (c : Nat → Rat) (P : Nat → Nat → Rat) (G : Nat → Rat) (k : Nat) : ∀ n, cf (fun j => su (fun i => c i * P i j) n) G k = su (fun i => c i * cf (P i) G k) n
 | 0 => cf_zero_left G k
 | n + 1 => by
  show cf (fun j => su (fun i => c i * P i j) n + c n * P n j) G k = su (fun i => c i * cf (P i) G k) n + c n * cf (P n) G k
  rw [cf_add_left, cf_su c P G k n, cf_smul]
theorem sb_cf {t n m : Nat} {A B : Nat → Rat} (hA : Fin n A) (hB : Fin m B) (j : Nat) : sb t (n + m) (cf A B) j = cf (sb t n A) (sb t m B) j := by
 have e1 : cf (sb t n A) (sb t m B) j = su (fun i => su (fun l => A i * (B l * xp ((i + l) * t) j)) m) n := by
  have h1 := cf_su A (fun i => xp (i * t)) (sb t m B) j n
  show cf (fun j => su (fun i => A i * xp (i * t) j) n) (sb t m B) j = _
  rw [h1]
  refine su_congr fun i hi => ?_
  have h2 := cf_su B (fun l => xp (l * t)) (xp (i * t)) j m
  rw [cf_comm, show cf (sb t m B) (xp (i * t)) j = cf (fun j => su (fun l => B l * xp (l * t) j) m) (xp (i * t)) j from rfl, h2, su_mul]
  congr 1
  refine su_congr fun l hl => ?_
  rw [xp_add, show l * t + i * t = (i + l) * t by rw [Nat.add_mul, Nat.add_comm]]
 have e2 : sb t (n + m) (cf A B) j = su (fun k => su (fun i => A i * (B (k - i) * xp ((i + (k - i)) * t) j)) (k + 1)) (n + m) := su_congr fun k hk => by
  show su (fun i => A i * B (k - i)) (k + 1) * xp (k * t) j = _
  rw [Rat.mul_comm, ← su_mul]
  refine su_congr fun i hi => ?_
  rw [show i + (k - i) = k by omega]
  grind
 have e3 := su_tri (f := fun i l => A i * (B l * xp ((i + l) * t) j)) (n := n + m)
 rw [e1, e2, e3]
 have e4 : su (fun i => su (fun l => A i * (B l * xp ((i + l) * t) j)) (n + m - i)) (n + m) = su (fun i => su (fun l => A i * (B l * xp ((i + l) * t) j)) (n + m - i)) n := su_more (fun i hi => su_zero fun l _ => by rw [hA i hi, Rat.zero_mul]) (Nat.le_add_right n m)
 rw [e4]
 refine su_congr fun i hi => ?_
 exact su_more (fun l hl => by rw [hB l hl, Rat.zero_mul, Rat.mul_zero]) (by omega)
structure Hom (d : Nat) (f : Nat → Rat) (d' : Nat) (g : Nat → Rat) (t : Nat) : Prop where
 mon : Mon d f
 mon' : Mon d' g
 zero : Rm d' g (sb t (d + 1) f) fun _ => 0
theorem Hom.red {d d' t m : Nat} {f g A r s : Nat → Rat} (h : Hom d f d' g t) (hA : Fin m A) (hr : Rm d f A r) (hs : Rm d' g (sb t d r) s) : Rm d' g (sb t m A) s := by
 obtain ⟨h1, N, q, h2, h3⟩ := hr
 have hz : Rm d' g (cf (sb t N q) (sb t (d + 1) f)) fun _ => 0 := h.zero.mul' (sb_fin t N q) ((Rm.self (n := d') (f := g) (r := fun _ => 0) fun _ _ => rfl).congr fun k => by
  rw [cf_comm, cf_zero_left])
 have hf : Fin (d + 1) f := h.mon.fin
 refine ((hz.add hs).trans_eq fun k => Rat.zero_add _).congr fun j => ?_
 show cf (sb t N q) (sb t (d + 1) f) j + sb t d r j = sb t m A j
 rw [← sb_cf h2 hf]
 have e1 : sb t m A j = sb t (max m (N + (d + 1))) A j := (sb_more hA (Nat.le_max_left _ _) j).symm
 rw [e1, sb_congr (B := fun i => cf q f i + r i) (fun i _ => h3 i), sb_add]
 congr 1
 ·exact (sb_more (h2.cf hf) (Nat.le_max_right _ _) j).symm
 ·exact (sb_more h1 (by omega) j).symm
theorem Hom.mul {d d' t n m : Nat} {f g A B a b ab s s' : Nat → Rat} (h : Hom d f d' g t) (hA : Fin n A) (hB : Fin m B) (ha : Rm d' g (sb t n A) a) (hb : Rm d' g (sb t m B) b) (hab : Rm d f (cf A B) ab) (hs : Rm d' g (sb t d ab) s) (hs' : Rm d' g (cf a b) s') : ∀ k, s k = s' k := by
 have h1 := h.red (hA.cf hB) hab hs
 have h2 := ha.mul (sb_fin t m B) (hb.mul' ha.1 hs')
 exact h1.eq h.mon' (h2.congr fun k => (sb_cf hA hB k).symm)
theorem sb_sb {t s m M : Nat} {A : Nat → Rat} (hM : ∀ i, i < m → i * t < M) (j : Nat) : sb s M (sb t m A) j = sb (t * s) m A j := by
 have step : ∀ n, (∀ i, i < n → i * t < M) → sb s M (fun l => su (fun i => A i * xp (i * t) l) n) j = su (fun i => A i * xp (i * (t * s)) j) n := fun n => by
  induction n with
  | zero => exact fun _ => su_zero fun _ _ => Rat.zero_mul _
  | succ n ih =>
   intro h
   show sb s M (fun l => su (fun i => A i * xp (i * t) l) n + A n * xp (n * t) l) j = su (fun i => A i * xp (i * (t * s)) j) n + A n * xp (n * (t * s)) j
   rw [sb_add, ih fun i hi => h i (by omega)]
   congr 1
   have e : sb s M (fun l => A n * xp (n * t) l) j = A n * sb s M (xp (n * t)) j := by
    unfold sb
    rw [← su_mul]
    exact su_congr fun i _ => Rat.mul_assoc _ _ _
   rw [e, sb_xp (h n (by omega)), Nat.mul_assoc]
 exact step m hM
theorem Hom.comp {d' d'' t s m n' : Nat} {g h A a b : Nat → Rat} (H : Hom d' g d'' h s) (ha : Rm d' g (sb t m A) a) (hn : Fin n' a) (hb : Rm d'' h (sb s n' a) b) : Rm d'' h (sb (t * s) m A) b := by
 have e : Rm d'' h (sb s d' a) b := hb.congr fun k => sb_any (n := min n' d') (fun i hi => by
  rcases Nat.lt_or_ge i d' with c | c
  ·exact hn i (by omega)
  ·exact ha.1 i c) (Nat.min_le_left _ _) (Nat.min_le_right _ _) k
 refine (H.red (m := m * t + 1) (sb_fin t m A) ha e).congr fun j => sb_sb (fun i hi => ?_) j
 have : i * t ≤ m * t := Nat.mul_le_mul_right t (by omega)
 omega
end Q
end Go.Proofs.YtmbejakmeijcbaaGreat
/- Quotients by integer polynomials told by tables of the letter's powers: checks of the tables and what they give. No condition. -/
namespace Go.Proofs.YtmbejakmeijcbaaGreat
namespace Q
def fr (l : List Int) (i : Nat) : Rat := ((l.getD i 0 : Int) : Rat)
theorem fr_fin (l : List Int) : Fin l.length (fr l) := fun i hi => by
 unfold fr
 rw [List.getD_eq_getElem?_getD, List.getElem?_eq_none hi]; rfl
def isu (f : Nat → Int) : Nat → Int
 | 0 => 0
 | n + 1 => isu f n + f n
theorem su_cast (f : Nat → Int) : ∀ n, su (fun i => ((f i : Int) : Rat)) n = ((isu f n : Int) : Rat)
 | 0 => rfl
 | n + 1 => by
  show su _ n + _ = ((isu f n + f n : Int) : Rat)
  rw [su_cast f n, Rat.intCast_add]
abbrev row (T : List (List Int)) (k : Nat) : List Int := T.getD k []
def tabB (n d : Nat) (φ : List Int) (T : List (List Int)) : Bool :=
 decide (1 ≤ n) && decide (1 ≤ d) && decide (d ≤ 12) && decide (n ≤ 42) && (φ.length == d + 1) && (φ.getD d 0 == 1) && (T.length == n) && T.all (fun l => decide (l.length ≤ d)) &&
  ((List.range d).all fun j => (row T 0).getD j 0 == if j == 0 then 1 else 0) &&
  (List.range n).all fun k => (List.range d).all fun j => (row T ((k + 1) % n)).getD j 0 == (if j == 0 then 0 else (row T k).getD (j - 1) 0) - (row T k).getD (d - 1) 0 * φ.getD j 0
theorem row_fin {d : Nat} {T : List (List Int)} (h : T.all (fun l => decide (l.length ≤ d)) = true) (k : Nat) : Fin d (fr (row T k)) := by
 refine (fr_fin _).mono ?_
 show (T.getD k []).length ≤ d
 rw [List.getD_eq_getElem?_getD]
 cases hx : T[k]? with
 | none => exact Nat.zero_le _
 | some l => exact of_decide_eq_true (List.all_eq_true.1 h l (List.mem_of_getElem? hx))
structure Tab (n d : Nat) (f : Nat → Rat) (T : List (List Int)) : Prop where
 n1 : 1 ≤ n
 n2 : n ≤ 42
 d1 : 1 ≤ d
 d2 : d ≤ 12
 mon : Mon d f
 fin : ∀ k, Fin d (fr (row T k))
 zero : ∀ k, fr (row T 0) k = xp 0 k
 rm : ∀ k, Rm d f (xp k) (fr (row T (k % n)))
theorem cf_xp1 (r : Nat → Rat) (j : Nat) : cf r (xp 1) j = if 1 ≤ j then r (j - 1) else 0 := by
 rw [cf_comm, cf_xp]
theorem rm_next {d : Nat} {f r r' : Nat → Rat} (hf : Mon d f) (hd : 1 ≤ d) (hr : Fin d r) (hr' : Fin d r') (h : ∀ j, j < d → r' j = (if j = 0 then 0 else r (j - 1)) - r (d - 1) * f j) : Rm d f (cf r (xp 1)) r' := by
 refine ⟨hr', 1, fun i => if i = 0 then r (d - 1) else 0, fun i hi => if_neg (by omega), fun k => ?_⟩
 have e := cf_mono (r (d - 1)) 0 f k
 rw [if_pos (Nat.zero_le k), Nat.sub_zero] at e
 rw [e, cf_xp1]
 rcases Nat.lt_or_ge k d with c | c
 ·rw [h k c]
  by_cases c' : k = 0
  ·rw [if_neg (by omega), if_pos c']; grind
  ·rw [if_pos (by omega), if_neg c']; grind
 ·rw [hr' k c, if_pos (by omega)]
  rcases Nat.lt_or_ge d k with c' | c'
  ·rw [hr (k - 1) (by omega), hf.fin k (by omega)]; grind
  ·rw [show k = d by omega, hf.top]; grind
theorem tab_ok {n d : Nat} {φ : List Int} {T : List (List Int)} (h : tabB n d φ T = true) : Tab n d (fr φ) T := by
 unfold tabB at h
 simp only [Bool.and_eq_true, decide_eq_true_eq, beq_iff_eq] at h
 obtain ⟨⟨⟨⟨⟨⟨⟨⟨⟨h1, h2⟩, h3⟩, h4⟩, h5⟩, h6⟩, _⟩, h8⟩, h9⟩, h10⟩ := h
 have hm : Mon d (fr φ) := ⟨by unfold fr; rw [h6]; rfl, by rw [← h5]; exact fr_fin φ⟩
 have hz : ∀ k, fr (row T 0) k = xp 0 k := fun k => by
  rcases Nat.lt_or_ge k d with c | c
  ·have := beq_iff_eq.1 (List.all_eq_true.1 h9 k (List.mem_range.2 c))
   unfold fr xp
   rw [this]
   by_cases e : k = 0
   ·subst e; rfl
   ·rw [if_neg (by simpa using e), if_neg e]; rfl
  ·rw [row_fin h8 0 k c, show xp 0 k = 0 from if_neg (by omega)]
 refine ⟨h1, h4, h2, h3, hm, row_fin h8, hz, fun k => ?_⟩
 induction k with
 | zero =>
  rw [Nat.zero_mod]
  exact (Rm.self (row_fin h8 0)).congr hz
 | succ k ih =>
  have hk : k % n < n := Nat.mod_lt _ h1
  have e : (k % n + 1) % n = (k + 1) % n := by rw [Nat.mod_add_mod]
  have h11 := List.all_eq_true.1 h10 (k % n) (List.mem_range.2 hk)
  rw [e] at h11
  refine (ih.mul (xp_fin 1) (rm_next hm h2 (row_fin h8 _) (row_fin h8 _) fun j hj => ?_)).congr fun j => xp_add k 1 j
  have := beq_iff_eq.1 (List.all_eq_true.1 h11 j (List.mem_range.2 hj))
  unfold fr
  rw [this, Rat.intCast_sub, Rat.intCast_mul]
  by_cases c : j = 0
  ·subst c; rfl
  ·rw [if_neg (by simpa using c), if_neg c]
def im (n t m : Nat) (T : List (List Int)) (A : Nat → Rat) (j : Nat) : Rat := su (fun i => A i * fr (row T (i * t % n)) j) m
theorem Tab.im_rm {n d : Nat} {f : Nat → Rat} {T : List (List Int)} (h : Tab n d f T) (t m : Nat) (A : Nat → Rat) : Rm d f (sb t m A) (im n t m T A) :=
 Rm.su A (fun i => h.rm (i * t)) m
theorem Tab.im_fin {n d : Nat} {f : Nat → Rat} {T : List (List Int)} (h : Tab n d f T) (t m : Nat) (A : Nat → Rat) : Fin d (im n t m T A) := (h.im_rm t m A).1
theorem im_more {n t m m' : Nat} {T : List (List Int)} {A : Nat → Rat} (h : Fin m A) (hm : m ≤ m') : im n t m' T A = im n t m T A := funext fun _ => su_more (fun i hi => by rw [h i hi, Rat.zero_mul]) hm
def homB (d n' d' t : Nat) (φ : List Int) (T' : List (List Int)) : Bool := (List.range d').all fun j => isu (fun i => φ.getD i 0 * (row T' (i * t % n')).getD j 0) (d + 1) == 0
theorem Tab.hom {n d n' d' t : Nat} {φ : List Int} {g : Nat → Rat} {T T' : List (List Int)} (h : Tab n d (fr φ) T) (h' : Tab n' d' g T') (hb : homB d n' d' t φ T' = true) : Hom d (fr φ) d' g t := by
 refine ⟨h.mon, h'.mon, (h'.im_rm t (d + 1) (fr φ)).trans_eq fun j => ?_⟩
 rcases Nat.lt_or_ge j d' with c | c
 ·have := beq_iff_eq.1 (List.all_eq_true.1 hb j (List.mem_range.2 c))
  have e := su_cast (fun i => φ.getD i 0 * (row T' (i * t % n')).getD j 0) (d + 1)
  rw [this] at e
  show su _ _ = (0 : Rat)
  rw [← show ((0 : Int) : Rat) = 0 from rfl, ← e]
  exact su_congr fun i _ => by
   unfold fr
   rw [Rat.intCast_mul]
 ·exact h'.im_fin t (d + 1) (fr φ) j c
def unitB (n d : Nat) (φ : List Int) (T : List (List Int)) : Bool := (List.range n).all fun t => Nat.gcd t n != 1 || homB d n d t φ T
def trc (n d : Nat) (T : List (List Int)) (k : Nat) : Int := isu (fun i => (row T ((k + i) % n)).getD i 0) d
def sumB (n d : Nat) (T : List (List Int)) : Bool := (List.range n).all fun k => (List.range d).all fun j => isu (fun t => if Nat.gcd (t + 1) n == 1 then (row T (k * (t + 1) % n)).getD j 0 else 0) n == if j == 0 then trc n d T k else 0
def backB (n' d d' s : Nat) (T' : List (List Int)) (G : List (List Int)) (D : Int) : Bool := !(D == 0) && (List.range d).all fun i => (List.range d).all fun l => isu (fun j => (row G i).getD j 0 * (row T' (l * s % n')).getD j 0) d' == if i == l then D else 0
def distB (n d : Nat) (T : List (List Int)) : Bool := (List.range n).all fun i => (List.range i).all fun j => (List.range d).any fun p => !((row T i).getD p 0 == (row T j).getD p 0)
end Q
end Go.Proofs.YtmbejakmeijcbaaGreat
/- Traces, sums of conjugates, lifts that can be undone, in a quotient told by a table. No condition. -/
namespace Go.Proofs.YtmbejakmeijcbaaGreat
namespace Q
theorem su_swap {f : Nat → Nat → Rat} (m : Nat) : ∀ n, su (fun i => su (fun l => f i l) m) n = su (fun l => su (fun i => f i l) n) m
 | 0 => (su_zero fun _ _ => rfl).symm
 | n + 1 => by
  show su (fun i => su (fun l => f i l) m) n + su (fun l => f n l) m = su (fun l => su (fun i => f i l) n + f n l) m
  rw [su_swap m n, su_add]
def dg (n d m : Nat) (T : List (List Int)) (A : Nat → Rat) : Rat := su (fun l => A l * ((trc n d T l : Int) : Rat)) m
theorem Tab.im_rat {n d t m : Nat} {f A : Nat → Rat} {T : List (List Int)} (h : Tab n d f T) (hm : 1 ≤ m) (hA : ∀ j, 1 ≤ j → A j = 0) (j : Nat) : im n t m T A j = if j = 0 then A 0 else 0 := by
 have e : im n t m T A j = A 0 * fr (Q.row T (0 * t % n)) j := su_one (t := 0) hm fun i _ hi => by rw [hA i (by omega), Rat.zero_mul]
 rw [e, Nat.zero_mul, Nat.zero_mod, h.zero]
 by_cases c : j = 0
 ·rw [if_pos c, show xp 0 j = 1 from if_pos c, Rat.mul_one]
 ·rw [if_neg c, show xp 0 j = 0 from if_neg c, Rat.mul_zero]
theorem back_ok {n' d d' s : Nat} {T' G : List (List Int)} {D : Int} {g r : Nat → Rat} (h' : Tab n' d' g T') (hb : backB n' d d' s T' G D = true) (hr : ∀ j, 1 ≤ j → im n' s d T' r j = 0) {i : Nat} (hi : 1 ≤ i) (hid : i < d) : r i = 0 := by
 unfold backB at hb
 simp only [Bool.and_eq_true] at hb
 obtain ⟨hD, hb⟩ := hb
 have hD : D ≠ 0 := by simpa using hD
 have k1 : ∀ l, l < d → su (fun j => (((G.getD i []).getD j 0 : Int) : Rat) * fr (Q.row T' (l * s % n')) j) d' = if i = l then (D : Rat) else 0 := fun l hl => by
  have h1 := beq_iff_eq.1 (List.all_eq_true.1 (List.all_eq_true.1 hb i (List.mem_range.2 hid)) l (List.mem_range.2 hl))
  have h2 := su_cast (fun j => (Q.row G i).getD j 0 * (Q.row T' (l * s % n')).getD j 0) d'
  rw [h1] at h2
  have h3 : su (fun j => (((G.getD i []).getD j 0 : Int) : Rat) * fr (Q.row T' (l * s % n')) j) d' = su (fun j => (((Q.row G i).getD j 0 * (Q.row T' (l * s % n')).getD j 0 : Int) : Rat)) d' := su_congr fun j _ => by
   rw [Rat.intCast_mul]; rfl
  rw [h3, h2]
  by_cases c : i = l
  ·rw [if_pos (by simpa using c), if_pos c]
  ·rw [if_neg (by simpa using c), if_neg c]; rfl
 have k2 : su (fun j => (((G.getD i []).getD j 0 : Int) : Rat) * im n' s d T' r j) d' = (D : Rat) * r i := by
  have e1 : su (fun j => (((G.getD i []).getD j 0 : Int) : Rat) * im n' s d T' r j) d' = su (fun j => su (fun l => r l * ((((G.getD i []).getD j 0 : Int) : Rat) * fr (Q.row T' (l * s % n')) j)) d) d' := su_congr fun j _ => by
   unfold im
   rw [← su_mul]
   exact su_congr fun l _ => by grind
  rw [e1, su_swap]
  have e2 : su (fun l => su (fun j => r l * ((((G.getD i []).getD j 0 : Int) : Rat) * fr (Q.row T' (l * s % n')) j)) d') d = su (fun l => r l * if i = l then (D : Rat) else 0) d := su_congr fun l hl => by rw [su_mul, k1 l hl]
  rw [e2, su_one (t := i) hid fun l _ hl => by rw [if_neg (fun e => hl e.symm), Rat.mul_zero], if_pos rfl, Rat.mul_comm]
 have k3 : su (fun j => (((G.getD i []).getD j 0 : Int) : Rat) * im n' s d T' r j) d' = (((G.getD i []).getD 0 0 : Int) : Rat) * im n' s d T' r 0 := su_one (t := 0) h'.d1 fun j _ hj => by rw [hr j (by omega), Rat.mul_zero]
 have k4 := k1 0 (by omega)
 rw [if_neg (by omega), Nat.zero_mul, Nat.zero_mod, su_one (t := 0) h'.d1 fun j _ hj => by rw [h'.zero, show xp 0 j = 0 from if_neg hj, Rat.mul_zero], h'.zero, show xp 0 0 = 1 from rfl, Rat.mul_one] at k4
 rw [k3, k4, Rat.zero_mul] at k2
 rcases Rat.mul_eq_zero.1 k2.symm with c | c
 ·exact absurd (by exact_mod_cast c) hD
 ·exact c
end Q
end Go.Proofs.YtmbejakmeijcbaaGreat
