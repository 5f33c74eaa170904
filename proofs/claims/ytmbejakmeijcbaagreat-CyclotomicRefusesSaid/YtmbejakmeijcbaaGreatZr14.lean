/- Division of lists of fractions by a monic one, in the program. -/
import Derived.Test.YtmbejakmeijcbaaGreatZr13
import Derived.Test.YtmbejakmeijcbaaGreatZr5
import Derived.Test.YtmbejakmeijcbaaGreatZr12
namespace Go.Proofs.YtmbejakmeijcbaaGreat
open Go.RowKit
namespace Rf
def qm (u : Nat → Rat) (k x : Nat) : RawR := if k ≤ x then ofR (u x) else zraw
theorem qm_self (u : Nat → Rat) (k : Nat) : qm u k k = ofR (u k) := if_pos (Nat.le_refl k)
theorem qm_next (u : Nat → Rat) (i x : Nat) : (if x = i then nq (u i) else rr (qm u (i + 1) x)) = rr (qm u i x) := by
 unfold qm
 by_cases e : x = i
 ·rw [if_pos e, if_pos (by omega), e]
 ·rw [if_neg e]
  by_cases e2 : i + 1 ≤ x
  ·rw [if_pos e2, if_pos (by omega)]
  ·rw [if_neg e2, if_neg (by omega)]
theorem qm_zero (u : Nat → Rat) : qm u 0 = fun x => ofR (u x) := funext fun x => if_pos (Nat.zero_le x)
theorem qm_top {u : Nat → Rat} {N x : Nat} (h : x < N) : qm u N x = zraw := if_neg (by omega)
theorem div_one_ok (x : Rat) {L : Nat} (h : qlen x ≤ L) (hL : L + 8 ≤ LIM) : FnOK Tryz.prog true 204 [.g (nq x), .g (nq 1)] (.t2 (.g (nq x)) (.c (.int .i64 0))) := by
 have := qquo_ok (q := ofR x) (p := ofR 1) (ofR_fit h) (ofR_fit (L := 1) (by decide)) (by omega) (by rw [ofR_val]; decide)
 rw [ofR_val, ofR_val, show x / 1 = x by grind] at this
 exact this
set_option maxHeartbeats 16000000 in
theorem qpdiv_long {n d : Nat} {v f : Nat → Rat} {K : Nat} (hf : Q.Mon d f) (ht : Q.tq v n = n) (hnd : d < n) (hn : n ≤ 4096) (hs : ∀ t k, t ≤ n - d → qlen (Q.dvs d f (n - d) v t k) ≤ K) (hg : ∀ j, qlen (f j) ≤ K) (h1 : 1 ≤ K) (hL : K + K + K + 16 ≤ LIM) : FnOK Tryz.prog true 184 [.c (nql n v), .c (nql (d + 1) f)] (.t2 (.c (nql (Q.tq (Q.dvq d f (n - d) v) (n - d)) (Q.dvq d f (n - d) v))) (.c (nql (Q.tq (Q.dvs d f (n - d) v (n - d)) n) (Q.dvs d f (n - d) v (n - d))))) := by
 have hv0 : ∀ i, i < n → (ofR (v i)).Fit K := fun i _ => ofR_fit (hs 0 i (Nat.zero_le _))
 have hN0 := qnorm_m (q := fun i => ofR (v i)) (v := v) (n := n) (funext fun i => ofR_val _) (by omega) hv0 (by omega)
 rw [ht] at hN0
 obtain ⟨N, hN⟩ : ∃ N, N = n - d := ⟨_, rfl⟩
 rw [← hN] at hs ⊢
 have ft := hf.top
 have q1 : ∀ t k, t ≤ N → FnOK Tryz.prog true 204 [.g (nq (Q.dvs d f N v t k)), .g (nq (f d))] (.t2 (.g (nq (Q.dvs d f N v t k))) (.c (.int .i64 0))) := fun t k h => by
  rw [ft]
  exact div_one_ok _ (hs t k h) (by omega)
 have z1 : ∀ i, i < N → FnOK Tryz.prog true 191 [.g (nq (Q.dvq d f N v i))] (.c (.bool (decide (Q.dvq d f N v i = 0)))) := fun i hi => qzero_nq _ (hs (N - 1 - i) (i + d) (by omega)) (by omega)
 have p1 : ∀ i j, i < N → FnOK Tryz.prog true 192 [.g (rr (qm (Q.dvq d f N v) i i)), .g (nq (f j))] (.g (nq (Q.dvq d f N v i * f j))) := fun i j hi => by
  rw [qm_self]
  have := qmul_ok (q := ofR (Q.dvq d f N v i)) (p := ofR (f j)) (ofR_fit (hs (N - 1 - i) (i + d) (by omega))) (ofR_fit (hg j)) (by omega)
  rwa [ofR_val, ofR_val] at this
 have s1 : ∀ i j, i < N → FnOK Tryz.prog true 110 [.g (nq (Q.dpt (Q.dvq d f N v i) f (Q.dvs d f N v (N - (i + 1))) i j (i + j))), .g (nq (Q.dvq d f N v i * f j))] (.g (nq (Q.dvs d f N v (N - (i + 1)) (i + j) - Q.dvq d f N v i * f j))) := fun i j hi => by
  rw [Q.dpt_old]
  have k1 : qlen (Q.dvq d f N v i) ≤ K := hs (N - 1 - i) (i + d) (by omega)
  have := qsub_ok (q := ofR (Q.dvs d f N v (N - (i + 1)) (i + j))) (p := ofR (Q.dvq d f N v i * f j)) (ofR_fit (hs _ _ (by omega))) (ofR_fit (qlen_mul k1 (hg j) (by omega))) (by omega) (by omega)
  rwa [ofR_val, ofR_val] at this
 have w1 : ∀ i, i < N → ∀ k, Q.dpt (Q.dvq d f N v i) f (Q.dvs d f N v (N - (i + 1))) i (d + 1) k = Q.dvs d f N v (N - i) k := fun i hi k => by
  have := Q.dpt_all hf.fin (N := N) (p := v) (t := N - (i + 1)) k
  rw [show N - 1 - (N - (i + 1)) = i by omega, show N - (i + 1) + 1 = N - i by omega] at this
  rw [← this]
  unfold Q.dvq
  rw [show N - 1 - i = N - (i + 1) by omega]
 have w2 : ∀ i, i < N → Q.dvq d f N v i = 0 → ∀ k, Q.dvs d f N v (N - (i + 1)) k = Q.dvs d f N v (N - i) k := fun i hi e k => by
  rw [← w1 i hi k, Q.dpt_none e]
 have w3 := fun i j k => Q.dpt_next (Q.dvq d f N v i) f (Q.dvs d f N v (N - (i + 1))) i j k
 have w4 := fun i k => Q.dpt_zero (Q.dvq d f N v i) f (Q.dvs d f N v (N - (i + 1))) i k
 have e1 : ∀ i, i < N → Q.dvs d f N v (N - (i + 1)) (i + d) = Q.dvq d f N v i := fun i hi => by
  unfold Q.dvq
  rw [show N - 1 - i = N - (i + 1) by omega]
 have hT1 := qtrim_nql (n := N) (v := Q.dvq d f N v) (by omega)
 rw [show nql N (Q.dvq d f N v) = ql N (qm (Q.dvq d f N v) 0) by rw [qm_zero]] at hT1
 have hT2 := qtrim_nql (n := n) (v := Q.dvs d f N v N) (by omega)
 have hT2 : FnOK Tryz.prog true 160 [.c (.row 4 n fun x j => qlF (fun x => ofR (Q.dvs d f N v (N - 0) x)) (0 + x) j)] (.c (nql (Q.tq (Q.dvs d f N v N) n) (Q.dvs d f N v N))) := arg_ok hT2 fun D w vs h => by
  match vs, h with
  | [v1], ⟨h1, _⟩ => exact ⟨subRowG rfl (fun x j hx hj => by rw [Nat.zero_add]; rfl) D w v1 h1, trivial⟩
 clear hs hg ht hv0
 refine fn_okS (E := E1) E1_ok Tryz.func184 rfl (by kernel_rfl) ?_
 refine swp_seq0 E1_ok mixed (by kernel_rfl) ?_
 conv => whnf
 refine swp_seq0 E1_ok mixed (by kernel_rfl) ?_
 conv => whnf
 refine .inl ⟨[], true, ?_⟩
 conv => whnf
 refine ⟨0, phB, [.c (nql n v)], _, _, _, hN0, rfl, .inr (Nat.le_refl 2), fun h => absurd h (by decide), fun h => absurd h (by decide), fun F' hF' => ?_, rfl, rfl, ?_⟩
 ·simp at hF'; subst hF'; exact qB_plain _ _
 conv => whnf
 refine swp_seq0 E1_ok mixed (by kernel_rfl) ?_
 conv => whnf
 refine bneg (show decide ((n : Int) < ((d + 1 : Nat) : Int)) = false from decide_eq_false (by omega)) ?_
 conv => whnf
 refine swp_seq0 E1_ok mixed (by kernel_rfl) ?_
 conv => whnf
 refine ⟨i64 (by omega) (by omega), ?_⟩
 conv => whnf
 refine ⟨i64 (by omega) (by omega), ?_⟩
 conv => whnf
 refine ⟨by omega, Int.le_refl _, by omega, by show (64 : Int) * ((n : Int) - ((d + 1 : Nat) : Int) + 1) ≤ 281474976710656; omega, ?_⟩
 have eN : ((n : Int) - ((d + 1 : Nat) : Int) + 1).toNat = N := by omega
 conv => whnf
 refine swp_seqS ?_
 refine swp_seq0 E1_ok mixed (by kernel_rfl) ?_
 conv => whnf
 refine ⟨i64 (by show _ ≤ (((n : Int) - ((d + 1 : Nat) : Int) + 1).toNat : Int) - 1; omega) (by show (((n : Int) - ((d + 1 : Nat) : Int) + 1).toNat : Int) - 1 < _; omega), ?_⟩
 conv => whnf
 refine swp_block ?_
 refine swp_loop (fun k : Nat => gst [(1, .c (nql (d + 1) f)), (4, .c (.gs 1 0)), (5, .c (.sl 0 0 4 0 n)), (6, .c (.int .i64 ((k : Int) - 1)))] [gqr n fun x => ofR (Q.dvs d f N v (N - k) x), gqr N (qm (Q.dvq d f N v) k)]) (fun k => k) (fun k => k ≤ N) N ?_ (Nat.le_refl _) fun k hk => ?_
 ·refine Weak.gen [some 1, some 2] rfl ⟨⟨_, rfl, rfl, rfl, rfl, rfl, fun x j hx hj => regE (qlF_eq (c := fun x => ofR (v x)) (e := fun x => ofR (Q.dvs d f N v (N - N) x)) (i := x) (k := x) (congrArg ofR (by rw [Nat.sub_self]; rfl))) (ql_clos (c := fun x => ofR (Q.dvs d f N v (N - N) x)) x j)⟩, ⟨_, rfl, rfl, rfl, eN, rfl, fun x j hx hj => ?_⟩, trivial⟩ ⟨.inl ⟨_, _, rfl, rfl, fun _ _ _ _ => rfl⟩, ⟨_, rfl, rfl, rfl⟩, ⟨_, _, rfl, rfl, rfl, rfl⟩, ⟨_, rfl, by show (((n : Int) - ((d + 1 : Nat) : Int) + 1).toNat : Int) - 1 = (N : Int) - 1; rw [eN]⟩, trivial⟩
  show regC 0 _ _ (qlF (qm (Q.dvq d f N v) N) x j) _
  have hx : x < N := hx
  unfold qlF
  rw [qm_top hx]
  match j, hj with
  | 0, _ => exact ⟨_, rfl, rfl⟩
  | 1, _ => exact .inr (.inl ⟨rfl, rfl⟩)
  | 2, _ => exact ⟨_, rfl, rfl⟩
  | 3, _ => exact .inr (.inl ⟨rfl, rfl⟩)
 refine swp_seq0 E1_ok mixed (by kernel_rfl) ?_
 conv => whnf
 refine bcase (fun (h : decide ((0 : Int) ≤ (k : Int) - 1) = true) => ?_) fun (h : decide ((0 : Int) ≤ (k : Int) - 1) = false) => ?_
 ·have h := of_decide_eq_true h
  obtain ⟨i, hi0⟩ : ∃ i, i = ((k : Int) - 1).toNat := ⟨_, rfl⟩
  have hk1 : k = i + 1 := by omega
  subst hk1
  have hiN : i < N := by omega
  have ei : (((i + 1 : Nat) : Int) - 1).toNat = i := by omega
  have g1 : FnOK Tryz.prog true 204 [.g (nq (Q.dvs d f N v (N - (i + 1)) (0 + (((i + 1 : Nat) : Int) - 1 + ((d + 1 : Nat) : Int) - 1).toNat))), .g (nq (f (((d + 1 : Nat) : Int) - 1).toNat))] (.t2 (.g (nq (Q.dvq d f N v i))) (.c (.int .i64 0))) := by
   have := q1 (N - (i + 1)) (i + d) (by omega)
   rw [e1 i hiN] at this
   rw [show 0 + (((i + 1 : Nat) : Int) - 1 + ((d + 1 : Nat) : Int) - 1).toNat = i + d by omega, show (((d + 1 : Nat) : Int) - 1).toNat = d by omega, e1 i hiN]
   exact this
  have g2 : FnOK Tryz.prog true 191 [.g (rr (qm (Q.dvq d f N v) i (((i + 1 : Nat) : Int) - 1).toNat))] (.c (.bool (decide (Q.dvq d f N v i = 0)))) := by
   rw [ei, qm_self]
   exact z1 i hiN
  conv => whnf
  refine swp_seqS (swp_block ?_)
  refine swp_seq E1_ok mixed (by kernel_rfl) ?_
  conv => whnf
  refine ⟨i64 (by omega) (by omega), ?_⟩
  conv => whnf
  refine ⟨i64 (by omega) (by omega), ?_⟩
  conv => whnf
  refine ⟨by omega, ?_⟩
  conv => whnf
  refine ⟨by show ((i + 1 : Nat) : Int) - 1 + ((d + 1 : Nat) : Int) - 1 < (n : Int); omega, ?_⟩
  conv => whnf
  refine ⟨i64 (by omega) (by omega), ?_⟩
  conv => whnf
  refine ⟨by omega, by omega, ?_⟩
  conv => whnf
  refine ⟨_, g1, ?_⟩
  conv => whnf
  refine ⟨by omega, by show ((i + 1 : Nat) : Int) - 1 < (N : Int); omega, ?_⟩
  conv => whnf
  refine ⟨gst [(1, .c (nql (d + 1) f)), (4, .c (.gs 1 0)), (5, .c (.sl 0 0 4 0 n)), (6, .c (.int .i64 (((i + 1 : Nat) : Int) - 1)))] [gqr n fun x => ofR (Q.dvs d f N v (N - (i + 1)) x), gqr N (qm (Q.dvq d f N v) i)], Weak.gen [some 0, some 1] rfl ⟨⟨_, rfl, rfl, rfl, rfl, rfl, fun x j hx hj => regE rfl (ql_clos (c := fun x => ofR (Q.dvs d f N v (N - (i + 1)) x)) x j)⟩, ⟨_, rfl, rfl, rfl, rfl, rfl, fun x j hx hj => regE ?_ (ql_clos (c := qm (Q.dvq d f N v) i) x j)⟩, trivial⟩ ⟨.inl ⟨_, _, rfl, rfl, fun _ _ _ _ => rfl⟩, ⟨_, rfl, rfl, rfl⟩, ⟨_, _, rfl, rfl, rfl, rfl⟩, ⟨_, rfl, rfl⟩, trivial⟩, ?_⟩
  ·exact updG (sz := 4) (g := fun x => rr (qm (Q.dvq d f N v) (i + 1) x)) (g' := fun x => rr (qm (Q.dvq d f N v) i x)) (l := nq (Q.dvq d f N v i)) rfl hj (by rw [ei]; exact qm_next _ i x)
  refine swp_seq0 E1_ok mixed (by kernel_rfl) ?_
  conv => whnf
  refine ⟨by omega, by show ((i + 1 : Nat) : Int) - 1 < (N : Int); omega, ?_⟩
  conv => whnf
  refine ⟨_, g2, ?_⟩
  conv => whnf
  refine bcase (fun (h3 : decide (Q.dvq d f N v i = 0) = true) => ?_) fun (h3 : decide (Q.dvq d f N v i = 0) = false) => ?_
  ·have y3 := w2 i hiN (of_decide_eq_true h3)
   conv => whnf
   refine swp_of E1_ok mixed (by kernel_rfl) ?_
   conv => whnf
   refine ⟨i64 (by omega) (by omega), ?_⟩
   conv => whnf
   exact ⟨i, by omega, Weak.gen [some 0, some 1] rfl ⟨⟨_, rfl, rfl, rfl, rfl, rfl, fun x j hx hj => regE (qlF_eq (c := fun x => ofR (Q.dvs d f N v (N - (i + 1)) x)) (e := fun x => ofR (Q.dvs d f N v (N - i) x)) (i := x) (k := x) (congrArg ofR (y3 x))) (ql_clos (c := fun x => ofR (Q.dvs d f N v (N - i) x)) x j)⟩, ⟨_, rfl, rfl, rfl, rfl, rfl, fun x j hx hj => regE rfl (ql_clos (c := qm (Q.dvq d f N v) i) x j)⟩, trivial⟩ ⟨.inl ⟨_, _, rfl, rfl, fun _ _ _ _ => rfl⟩, ⟨_, rfl, rfl, rfl⟩, ⟨_, _, rfl, rfl, rfl, rfl⟩, ⟨_, rfl, by omega⟩, trivial⟩, by omega⟩
  ·conv => whnf
   refine swp_of E1_ok mixed (by kernel_rfl) ?_
   conv => whnf
   refine loop_ints (fun j : Nat => gst [(1, .c (nql (d + 1) f)), (4, .c (.gs 1 0)), (5, .c (.sl 0 0 4 0 n)), (6, .c (.int .i64 (((i + 1 : Nat) : Int) - 1))), (57, .c (nql (d + 1) f)), (58, .c (.int .i64 ((d + 1 : Nat) : Int))), (59, .c (.int .i64 j))] [gqr n fun x => ofR (Q.dpt (Q.dvq d f N v i) f (Q.dvs d f N v (N - (i + 1))) i j x), gqr N (qm (Q.dvq d f N v) i)]) (fun j => d + 1 - j) (fun j => j ≤ d + 1) 0 rfl (Weak.gen [some 0, some 1] rfl ⟨⟨_, rfl, rfl, rfl, rfl, rfl, fun x j hx hj => regE (qlF_eq (c := fun x => ofR (Q.dvs d f N v (N - (i + 1)) x)) (e := fun x => ofR (Q.dpt (Q.dvq d f N v i) f (Q.dvs d f N v (N - (i + 1))) i 0 x)) (i := x) (k := x) (congrArg ofR (w4 i x).symm)) (ql_clos (c := fun x => ofR (Q.dpt (Q.dvq d f N v i) f (Q.dvs d f N v (N - (i + 1))) i 0 x)) x j)⟩, ⟨_, rfl, rfl, rfl, rfl, rfl, fun x j hx hj => regE rfl (ql_clos (c := qm (Q.dvq d f N v) i) x j)⟩, trivial⟩ ⟨.inl ⟨_, _, rfl, rfl, fun _ _ _ _ => rfl⟩, ⟨_, rfl, rfl, rfl⟩, ⟨_, _, rfl, rfl, rfl, rfl⟩, ⟨_, rfl, rfl⟩, .inl ⟨_, _, rfl, rfl, fun _ _ _ _ => rfl⟩, ⟨_, rfl, rfl⟩, ⟨_, rfl, rfl⟩, trivial⟩) (Nat.zero_le _) fun j hj => ?_
   have u1 : FnOK Tryz.prog true 192 [.g (rr (qm (Q.dvq d f N v) i (((i + 1 : Nat) : Int) - 1).toNat)), .g (nq (f j))] (.g (nq (Q.dvq d f N v i * f j))) := by
    rw [ei]
    exact p1 i j hiN
   have ej : 0 + (((i + 1 : Nat) : Int) - 1 + (j : Int)).toNat = i + j := by omega
   have u2 : FnOK Tryz.prog true 110 [.g (nq (Q.dpt (Q.dvq d f N v i) f (Q.dvs d f N v (N - (i + 1))) i j (0 + (((i + 1 : Nat) : Int) - 1 + (j : Int)).toNat))), .g (nq (Q.dvq d f N v i * f j))] (.g (nq (Q.dvs d f N v (N - (i + 1)) (i + j) - Q.dvq d f N v i * f j))) := by
    rw [ej]
    exact s1 i j hiN
   have u3 := w3 i j
   have u4 := w1 i hiN
   conv => whnf
   refine bcase (fun (h4 : decide ((j : Int) < ((d + 1 : Nat) : Int)) = true) => ?_) fun (h4 : decide ((j : Int) < ((d + 1 : Nat) : Int)) = false) => ?_
   ·have h4 := of_decide_eq_true h4
    conv => whnf
    refine ⟨by omega, by omega, ?_⟩
    conv => whnf
    refine ⟨i64 (by omega) (by omega), ?_⟩
    conv => whnf
    refine ⟨i64 (by omega) (by omega), ?_⟩
    conv => whnf
    refine ⟨by omega, ?_⟩
    conv => whnf
    refine ⟨by show ((i + 1 : Nat) : Int) - 1 + (j : Int) < (n : Int); omega, ?_⟩
    conv => whnf
    refine ⟨by omega, by show ((i + 1 : Nat) : Int) - 1 < (N : Int); omega, ?_⟩
    conv => whnf
    refine ⟨_, u1, ?_⟩
    conv => whnf
    refine ⟨_, u2, ?_⟩
    conv => whnf
    refine ⟨by omega, ?_⟩
    conv => whnf
    refine ⟨by show ((i + 1 : Nat) : Int) - 1 + (j : Int) < (n : Int); omega, ?_⟩
    conv => whnf
    refine ⟨i64 (by omega) (by omega), ?_⟩
    conv => whnf
    refine ⟨j + 1, by omega, Weak.gen [some 0, some 1] rfl ⟨⟨_, rfl, rfl, rfl, rfl, rfl, fun x y hx hy => regE ?_ (ql_clos (c := fun x => ofR (Q.dpt (Q.dvq d f N v i) f (Q.dvs d f N v (N - (i + 1))) i (j + 1) x)) x y)⟩, ⟨_, rfl, rfl, rfl, rfl, rfl, fun x j hx hj => regE rfl (ql_clos (c := qm (Q.dvq d f N v) i) x j)⟩, trivial⟩ ⟨.inl ⟨_, _, rfl, rfl, fun _ _ _ _ => rfl⟩, ⟨_, rfl, rfl, rfl⟩, ⟨_, _, rfl, rfl, rfl, rfl⟩, ⟨_, rfl, rfl⟩, .inl ⟨_, _, rfl, rfl, fun _ _ _ _ => rfl⟩, ⟨_, rfl, rfl⟩, ⟨_, rfl, rfl⟩, trivial⟩, by omega⟩
    exact updG (sz := 4) (g := fun x => nq (Q.dpt (Q.dvq d f N v i) f (Q.dvs d f N v (N - (i + 1))) i j x)) (g' := fun x => nq (Q.dpt (Q.dvq d f N v i) f (Q.dvs d f N v (N - (i + 1))) i (j + 1) x)) (l := nq (Q.dvs d f N v (N - (i + 1)) (i + j) - Q.dvq d f N v i * f j)) rfl hy (by
     show (if x = 0 + (((i + 1 : Nat) : Int) - 1 + (j : Int)).toNat then nq (Q.dvs d f N v (N - (i + 1)) (i + j) - Q.dvq d f N v i * f j) else nq (Q.dpt (Q.dvq d f N v i) f (Q.dvs d f N v (N - (i + 1))) i j x)) = nq (Q.dpt (Q.dvq d f N v i) f (Q.dvs d f N v (N - (i + 1))) i (j + 1) x)
     rw [ej, ← u3 x]
     split <;> rfl)
   ·have h4 := of_decide_eq_false h4
    have e : j = d + 1 := by omega
    conv => whnf
    refine swp_of E1_ok mixed (by kernel_rfl) ?_
    conv => whnf
    refine ⟨i64 (by omega) (by omega), ?_⟩
    conv => whnf
    exact ⟨i, by omega, Weak.gen [some 0, some 1] rfl ⟨⟨_, rfl, rfl, rfl, rfl, rfl, fun x y hx hy => regE (qlF_eq (c := fun x => ofR (Q.dpt (Q.dvq d f N v i) f (Q.dvs d f N v (N - (i + 1))) i j x)) (e := fun x => ofR (Q.dvs d f N v (N - i) x)) (i := x) (k := x) (congrArg ofR (by rw [e]; exact u4 x))) (ql_clos (c := fun x => ofR (Q.dvs d f N v (N - i) x)) x y)⟩, ⟨_, rfl, rfl, rfl, rfl, rfl, fun x j hx hj => regE rfl (ql_clos (c := qm (Q.dvq d f N v) i) x j)⟩, trivial⟩ ⟨.inl ⟨_, _, rfl, rfl, fun _ _ _ _ => rfl⟩, ⟨_, rfl, rfl, rfl⟩, ⟨_, _, rfl, rfl, rfl, rfl⟩, ⟨_, rfl, by omega⟩, trivial⟩, by omega⟩
 ·have h := of_decide_eq_false h
  have hk0 : k = 0 := by omega
  subst hk0
  conv => whnf
  refine swp_of E1_ok mixed (by kernel_rfl) ?_
  conv => whnf
  refine .inr ⟨fun x j _ _ => ql_clos (c := qm (Q.dvq d f N v) 0) x j, ?_⟩
  conv => whnf
  refine ⟨_, hT1, ?_⟩
  conv => whnf
  refine .inr ⟨fun x j _ _ => ql_clos (c := fun x => ofR (Q.dvs d f N v (N - 0) x)) x j, ?_⟩
  conv => whnf
  refine ⟨_, hT2, ?_⟩
  conv => whnf
  exact ⟨rfl, Sub.refl _⟩
end Rf
end Go.Proofs.YtmbejakmeijcbaaGreat
/- Quotient and remainder by a monic polynomial in the program. -/
namespace Go.Proofs.YtmbejakmeijcbaaGreat
open Go.RowKit
theorem FnOK.res {P : Program} {r : Bool} {f : FuncId} {args : List V} {X X' : V} (h : FnOK P r f args X) (s : Sub X X') : FnOK P r f args X' :=
 ⟨h.1, fun D w vs a b c => (h.2 D w vs a b c).mono fun _ _ ⟨v, e, hv, hb⟩ => ⟨v, e, s _ _ _ hv, hb⟩⟩
def Q.rst (d : Nat) (f p : Nat → Rat) (m : Nat) : Nat → Rat := Q.dvs d f (m - d) p (m - d)
theorem Q.rst_rm {d m : Nat} {f p : Nat → Rat} (hf : Q.Mon d f) (hp : Q.Fin m p) : Q.Rm d f p (Q.rst d f p m) :=
 Q.dvs_rm hf (hp.mono (by omega))
theorem Q.rst_len {d m : Nat} {f p : Nat → Rat} (hf : Q.Mon d f) (hp : Q.Fin m p) : Q.tq (Q.rst d f p m) m = Q.tq (Q.rst d f p m) d := by
 have h := (Q.rst_rm hf hp).1
 refine Q.tq_eq ?_ h
 rcases Nat.lt_or_ge m d with c | c
 ·have e : Q.rst d f p m = p := by
   unfold Q.rst
   rw [show m - d = 0 by omega]; rfl
  rw [e]; exact hp
 ·exact h.mono c
namespace Rf
set_option maxHeartbeats 4000000 in
theorem qpdiv_short {n d : Nat} {v f : Nat → Rat} {K : Nat} (ht : Q.tq v n = n) (hnd : n ≤ d) (hn : n ≤ 4096) (hs : ∀ k, qlen (v k) ≤ K) (hL : K + 3 ≤ LIM) : FnOK Tryz.prog true 184 [.c (nql n v), .c (nql (d + 1) f)] (.t2 (.c .nil) (.c (nql n v))) := by
 have h1 := qnorm_ok (q := fun i => ofR (v i)) (v := v) (n := n) (funext fun i => ofR_val _) (by omega) (fun i _ => ofR_fit (hs i)) hL
 rw [ht] at h1
 refine fn_ok (E := E1) E1_ok Tryz.func184 rfl mixed (by kernel_rfl) (by kernel_rfl) ?_
 conv => whnf
 refine .inr ?_
 conv => whnf
 refine ⟨_, h1, ?_⟩
 conv => whnf
 refine bpos (show decide ((n : Int) < ((d + 1 : Nat) : Int)) = true from decide_eq_true (by omega)) ?_
 conv => whnf
 exact ⟨rfl, Sub.refl _⟩
theorem qnorm_x {n : Nat} {q : Nat → RawR} {L : Nat} {p : Nat → Rat} (hp : Q.qx n (fun i => (q i).val) = p) (hn : n ≤ 1048576) (hq : ∀ i, i < n → (q i).Fit L) (hL : L + 3 ≤ LIM) : FnOK Tryz.prog true 183 [.c (ql n q)] (.c (nql (Q.tq p n) p)) := by
 have h := qnorm_ok (q := q) rfl hn hq hL
 have e : Q.tq (fun i => (q i).val) n = Q.tq p n := Q.tq_congr fun i hi => by rw [← hp, Q.qx_lt hi]
 rw [e] at h
 refine h.res (subRowG rfl fun i j hi hj => qlF_eq (c := fun i => ofR (q i).val) (e := fun i => ofR (p i)) (i := i) (k := i) (congrArg ofR ?_))
 have := Q.tq_le p n
 rw [← hp, Q.qx_lt (by omega)]
theorem qpdivide_ok {n d : Nat} {p f : Nat → Rat} {K : Nat} (hf : Q.Mon d f) (ht : Q.tq p n = n) (hn : n ≤ 4096) (hs : ∀ t k, t ≤ n - d → qlen (Q.dvs d f (n - d) p t k) ≤ K) (hg : ∀ j, qlen (f j) ≤ K) (h1 : 1 ≤ K) (hL : K + K + K + 16 ≤ LIM) : ∃ Y : Cell, (Y = .nil ∨ ∃ N u, Y = nql N u) ∧ FnOK Tryz.prog true 184 [.c (nql n p), .c (nql (d + 1) f)] (.t2 (.c Y) (.c (nql (Q.tq (Q.rst d f p n) n) (Q.rst d f p n)))) := by
 rcases Nat.lt_or_ge d n with c | c
 ·exact ⟨_, .inr ⟨_, _, rfl⟩, qpdiv_long hf ht c hn hs hg h1 hL⟩
 ·refine ⟨.nil, .inl rfl, ?_⟩
  have e : Q.rst d f p n = p := by
   unfold Q.rst
   rw [show n - d = 0 by omega]; rfl
  rw [e, ht]
  exact qpdiv_short ht c hn (fun k => hs 0 k (Nat.zero_le _)) (by omega)
set_option maxHeartbeats 4000000 in
theorem qpdivmod_ok {n d : Nat} {q : Nat → RawR} {p f : Nat → Rat} {L K : Nat} (hp : Q.qx n (fun i => (q i).val) = p) (hf : Q.Mon d f) (hn : n ≤ 4096) (hd : d ≤ 4096) (hq : ∀ i, i < n → (q i).Fit L) (hs : ∀ t k, t ≤ Q.tq p n - d → qlen (Q.dvs d f (Q.tq p n - d) p t k) ≤ K) (hg : ∀ j, qlen (f j) ≤ K) (h1 : 1 ≤ K) (hL : L + 3 ≤ LIM) (hL2 : K + K + K + 16 ≤ LIM) : ∃ Y : Cell, (Y = .nil ∨ ∃ N u, Y = nql N u) ∧ FnOK Tryz.prog true 144 [.c (ql n q), .c (nql (d + 1) f)] (.t3 (.c Y) (.c (nql (Q.tq (Q.rst d f p (Q.tq p n)) d) (Q.rst d f p (Q.tq p n)))) (.c (.int .i64 0))) := by
 have n1 := qnorm_x hp (by omega) hq hL
 have n2 := qnorm_ok (q := fun i => ofR (f i)) (v := f) (n := d + 1) (funext fun i => ofR_val _) (by omega) (fun i _ => ofR_fit (hg i)) (by omega)
 rw [Q.tq_self (n := d + 1) (v := f) fun k hk => by
  rw [show k = d by omega, hf.top]; decide] at n2
 have fp : Q.Fin n p := by rw [← hp]; exact Q.qx_fin _ _
 have hm := Q.tq_le p n
 have ht : Q.tq p (Q.tq p n) = Q.tq p n := Q.tq_self fun k hk => Q.tq_top hk
 obtain ⟨Y, hY, n3⟩ := qpdivide_ok hf ht (by omega) hs hg h1 hL2
 rw [Q.rst_len hf (Q.tq_fin fp)] at n3
 refine ⟨Y, hY, ?_⟩
 generalize Q.rst d f p (Q.tq p n) = r at *
 generalize Q.tq r d = T at *
 generalize Q.tq p n = m at *
 clear hs hg hq hp fp ht
 rcases hY with rfl | ⟨N', u, rfl⟩
 all_goals
  refine fn_ok (E := E1) E1_ok Tryz.func144 rfl mixed (by kernel_rfl) (by kernel_rfl) ?_
  conv => whnf
  refine .inr ?_
  conv => whnf
  refine ⟨_, n2, ?_⟩
  conv => whnf
  refine .inr ?_
  conv => whnf
  refine ⟨_, n1, ?_⟩
  conv => whnf
  refine ⟨_, n3, ?_⟩
  conv => whnf
  exact ⟨rfl, Sub.refl _⟩
end Rf
end Go.Proofs.YtmbejakmeijcbaaGreat
/- Fractions with a common denominator, and how long they are. -/
namespace Go.Proofs.YtmbejakmeijcbaaGreat
def Bd (D B : Nat) (x : Rat) : Prop := ∃ z : Int, x * ((D : Int) : Rat) = (z : Rat) ∧ z.natAbs ≤ B
theorem Bd.zero (D B : Nat) : Bd D B 0 := ⟨0, by rw [Rat.zero_mul]; rfl, Nat.zero_le _⟩
theorem Bd.mono {D B B' : Nat} {x : Rat} (h : Bd D B x) (hB : B ≤ B') : Bd D B' x := by
 obtain ⟨z, h1, h2⟩ := h
 exact ⟨z, h1, by omega⟩
theorem Bd.add {D B B' : Nat} {x y : Rat} (h : Bd D B x) (h' : Bd D B' y) : Bd D (B + B') (x + y) := by
 obtain ⟨z, h1, h2⟩ := h
 obtain ⟨w, g1, g2⟩ := h'
 refine ⟨z + w, by rw [Rat.add_mul, h1, g1, Rat.intCast_add], ?_⟩
 have := Int.natAbs_add_le z w
 omega
theorem Bd.neg {D B : Nat} {x : Rat} (h : Bd D B x) : Bd D B (-x) := by
 obtain ⟨z, h1, h2⟩ := h
 exact ⟨-z, by rw [Rat.neg_mul, h1, Rat.intCast_neg], by omega⟩
theorem Bd.sub {D B B' : Nat} {x y : Rat} (h : Bd D B x) (h' : Bd D B' y) : Bd D (B + B') (x - y) := by
 rw [Rat.sub_eq_add_neg]
 exact h.add h'.neg
theorem Bd.mul {D D' B B' : Nat} {x y : Rat} (h : Bd D B x) (h' : Bd D' B' y) : Bd (D * D') (B * B') (x * y) := by
 obtain ⟨z, h1, h2⟩ := h
 obtain ⟨w, g1, g2⟩ := h'
 refine ⟨z * w, ?_, ?_⟩
 ·rw [Rat.intCast_mul, ← h1, ← g1, Int.natCast_mul, Rat.intCast_mul]
  grind
 ·rw [Int.natAbs_mul]
  exact Nat.mul_le_mul h2 g2
theorem Bd.scale {D B : Nat} (e : Nat) {x : Rat} (h : Bd D B x) : Bd (D * e) (B * e) x := by
 obtain ⟨z, h1, h2⟩ := h
 refine ⟨z * (e : Int), ?_, ?_⟩
 ·rw [Rat.intCast_mul, ← h1, Int.natCast_mul, Rat.intCast_mul]
  grind
 ·rw [Int.natAbs_mul]
  exact Nat.mul_le_mul h2 (Nat.le_refl _)
theorem Bd.len {D B L : Nat} {x : Rat} (h : Bd D B x) (h0 : 0 < D) (hD : D < Dg.B ^ L) (hB : B < Dg.B ^ L) (h1 : 1 ≤ L) : qlen x ≤ L := by
 obtain ⟨z, e1, e2⟩ := h
 have hx : x = ratio z (D : Int) := by
  unfold ratio
  rw [← e1]
  have : ((D : Int) : Rat) ≠ 0 := fun e => by
   have e : ((D : Int) : Rat) = ((0 : Int) : Rat) := e
   have := Rat.intCast_inj.1 e
   omega
  grind
 rw [hx]
 exact qlen_ratio (zlen_le (by omega)) (zlen_le (by simpa using hD)) h1
theorem Bd.int (x : Int) : Bd 1 x.natAbs (x : Rat) := ⟨x, by rw [show (((1 : Nat) : Int) : Rat) = 1 from rfl, Rat.mul_one], Nat.le_refl _⟩
theorem Bd.self (x : Rat) : Bd x.den x.num.natAbs x := ⟨x.num, by
 have h : ((x.num : Int) : Rat) / ((x.den : Int) : Rat) = x := ratio_num_den x
 have hd : ((x.den : Int) : Rat) ≠ 0 := fun e => by
  have e : ((x.den : Int) : Rat) = ((0 : Int) : Rat) := e
  have := Rat.intCast_inj.1 e
  have := x.den_pos
  omega
 grind, Nat.le_refl _⟩
namespace Q
theorem dvs_bd {d N D B C : Nat} {f p : Nat → Rat} (hp : ∀ k, Bd D B (p k)) (hf : ∀ j, Bd 1 C (f j)) : ∀ t k, Bd D (B * (1 + C) ^ t) (dvs d f N p t k)
 | 0, k => by rw [Nat.pow_zero, Nat.mul_one]; exact hp k
 | t + 1, k => by
  have h := dvs_bd (d := d) (N := N) hp hf t
  show Bd D _ (dvs d f N p t k - _)
  rw [Nat.pow_succ, ← Nat.mul_assoc, Nat.mul_add, Nat.mul_one]
  refine (h k).sub ?_
  split
  ·have := (h (N - 1 - t + d)).mul (hf (k - (N - 1 - t)))
   rwa [Nat.mul_one] at this
  ·exact Bd.zero _ _
theorem common (M : Nat) (hM : 0 < M) (v : Nat → Rat) : ∀ n, (∀ i, i < n → (v i).den ≤ M ∧ (v i).num.natAbs ≤ M) → ∃ D, 0 < D ∧ D ≤ M ^ n ∧ ∀ i, i < n → Bd D (M * M ^ n) (v i)
 | 0, _ => ⟨1, by decide, Nat.le_refl _, fun i hi => absurd hi (Nat.not_lt_zero i)⟩
 | n + 1, h => by
  obtain ⟨D, h1, h2, h3⟩ := common M hM v n fun i hi => h i (by omega)
  obtain ⟨g1, g2⟩ := h n (by omega)
  have g0 := (v n).den_pos
  refine ⟨D * (v n).den, Nat.mul_pos h1 g0, ?_, fun i hi => ?_⟩
  ·rw [Nat.pow_succ]; exact Nat.mul_le_mul h2 g1
  ·rcases Nat.lt_or_ge i n with c | c
   ·refine ((h3 i c).scale (v n).den).mono ?_
    rw [Nat.pow_succ, ← Nat.mul_assoc]
    exact Nat.mul_le_mul (Nat.le_refl _) g1
   ·rw [show i = n by omega]
    have := (Bd.self (v n)).scale D
    rw [Nat.mul_comm D]
    refine this.mono ?_
    refine Nat.mul_le_mul g2 (Nat.le_trans h2 ?_)
    exact Nat.pow_le_pow_right hM (by omega)
end Q
end Go.Proofs.YtmbejakmeijcbaaGreat
/- The ring of rests modulo a monic polynomial, and the matrices of its multiplications. No condition. -/
namespace Go.Proofs.YtmbejakmeijcbaaGreat
namespace Q
def xp (i k : Nat) : Rat := if k = i then 1 else 0
theorem xp_fin (i : Nat) : Fin (i + 1) (xp i) := fun k hk => if_neg (by omega)
theorem cf_xp (i : Nat) (f : Nat → Rat) (k : Nat) : cf (xp i) f k = if i ≤ k then f (k - i) else 0 := by
 have := cf_mono 1 i f k
 rw [show cf (xp i) f k = cf (fun j => if j = i then (1 : Rat) else 0) f k from rfl, this]
 split
 ·rw [Rat.one_mul]
 ·rfl
theorem xp_add (i j k : Nat) : cf (xp i) (xp j) k = xp (i + j) k := by
 rw [cf_xp]
 unfold xp
 by_cases h : i ≤ k
 ·rw [if_pos h]
  by_cases e : k = i + j
  ·rw [if_pos (by omega), if_pos e]
  ·rw [if_neg (by omega), if_neg e]
 ·rw [if_neg h, if_neg (by omega)]
theorem Rm.su {n : Nat} {f : Nat → Rat} {P R : Nat → Nat → Rat} (c : Nat → Rat) (h : ∀ k, Rm n f (P k) (R k)) : ∀ m, Rm n f (fun j => su (fun k => c k * P k j) m) fun j => su (fun k => c k * R k j) m
 | 0 => Rm.self fun _ _ => rfl
 | m + 1 => (Rm.su c h m).add ((h m).smul (c m))
structure Rws (n : Nat) (f A g : Nat → Rat) (a : Nat → Nat → Rat) : Prop where
 first : Rm n f A (a 0)
 next : ∀ i, Rm n f (cf (a i) g) (a (i + 1))
end Q
end Go.Proofs.YtmbejakmeijcbaaGreat
/- A well-formed number field opened; normal forms, sums and products of its elements. -/
namespace Go.Proofs.YtmbejakmeijcbaaGreat
open Go.RowKit
namespace Rf
abbrev ringL (d : Nat) (f : Nat → Rat) : List Cell := [nql (d + 1) f, .int .i64 (((d + 1 : Nat) : Int) - 1)]
set_option maxHeartbeats 4000000 in
theorem open_good {n d : Nat} {c : Nat → RawZ} {f : Nat → Rat} (hfv : (fun i => ((vz c i : Int) : Rat)) = f) (h : wl n c) (hd : tl (vz c) n = d + 1) (h1 : 1 ≤ d) (h2 : d ≤ 12) (h3 : vz c d = 1) : FnOK Tryz.prog true 89 [.g [zl n c]] (.t2 (.c (.xp 2 fun j => boxF (ringL d f) 0 (0 + j))) (.c (.int .i64 0))) := by
 have n1 := znormal_ok h
 have hw : wl (tl (vz c) n) fun i => ofZ (vz c i) := ⟨Nat.le_trans (tl_le _ _) h.1, fun i hi => wr_nz (Nat.le_trans (wr_len (h.2 i (Nat.lt_of_lt_of_le hi (tl_le _ _)))) (h.2 i (Nat.lt_of_lt_of_le hi (tl_le _ _))).2)⟩
 have e1 : vz (fun i => ofZ (vz c i)) = vz c := funext fun i => ofZ_val _
 have n2 := qpof_eq (v := f) (by rw [← hfv, e1]) hw
 rw [e1, tl_tl, hd] at n2
 rw [hd] at n1
 have n3 := qof_ok (n := 1) (by decide) (by decide)
 have n4 : FnOK Tryz.prog true 79 [.g (nq (f (((d + 1 : Nat) : Int) - 1).toNat)), .g (nq ((1 : Int) : Rat))] (.c (.int .i64 0)) := by
  have := qcmp_one (x := 1) (by decide)
  rw [show (((d + 1 : Nat) : Int) - 1).toNat = d by omega, ← hfv]
  show FnOK _ _ _ [.g (nq ((vz c d : Int) : Rat)), _] _
  rw [h3]
  exact this
 clear hfv h hd hw e1 h3
 generalize vz c = v at *
 refine fn_ok (E := E1) E1_ok Tryz.func89 rfl mixed (by kernel_rfl) (by kernel_rfl) ?_
 conv => whnf
 refine ⟨_, n1, ?_⟩
 conv => whnf
 refine ⟨_, n2, ?_⟩
 conv => whnf
 refine ⟨i64 (by omega) (by omega), ?_⟩
 conv => whnf
 refine bpos (gw_true.2 (show decide (((d + 1 : Nat) : Int) - 1 < 1) = false from decide_eq_false (by omega))) ?_
 conv => whnf
 refine bpos (gw_true.2 (show decide ((12 : Int) < ((d + 1 : Nat) : Int) - 1) = false from decide_eq_false (by omega))) ?_
 conv => whnf
 refine ⟨by omega, by omega, ?_⟩
 conv => whnf
 refine ⟨_, n3, ?_⟩
 conv => whnf
 refine ⟨_, n4, ?_⟩
 conv => whnf
 refine ⟨fun i j _ _ => box_clos (l := ringL d f) (i := i) (j := j) rfl, ?_⟩
 conv => whnf
 exact ⟨rfl, Sub.refl _⟩
abbrev ringP (d : Nat) (f : Nat → Rat) : V := .c (.xp 2 fun j => boxF (ringL d f) 0 (0 + j))
set_option maxHeartbeats 4000000 in
theorem rnormal_raw {n d : Nat} {q : Nat → RawR} {p f : Nat → Rat} {L K : Nat} (hp : Q.qx n (fun i => (q i).val) = p) (hf : Q.Mon d f) (hn : n ≤ 4096) (hd : d ≤ 4096) (hq : ∀ i, i < n → (q i).Fit L) (hs : ∀ t k, t ≤ Q.tq p n - d → qlen (Q.dvs d f (Q.tq p n - d) p t k) ≤ K) (hg : ∀ j, qlen (f j) ≤ K) (h1 : 1 ≤ K) (hL : L + 3 ≤ LIM) (hL2 : K + K + K + 16 ≤ LIM) : FnOK Tryz.prog true 108 [ringP d f, .c (ql n q)] (.c (nql (Q.tq (Q.rst d f p (Q.tq p n)) d) (Q.rst d f p (Q.tq p n)))) := by
 obtain ⟨Y, hY, n3⟩ := qpdivmod_ok hp hf hn hd hq hs hg h1 hL hL2
 clear hs hg hq hp hf
 generalize Q.rst d f p (Q.tq p n) = r at *
 generalize Q.tq r d = T at *
 rcases hY with rfl | ⟨N', u, rfl⟩
 all_goals
  refine fn_ok (E := E1) E1_ok Tryz.func108 rfl mixed (by kernel_rfl) (by kernel_rfl) ?_
  conv => whnf
  refine ⟨_, n3, ?_⟩
  conv => whnf
  exact ⟨rfl, Sub.refl _⟩
abbrev KD : Nat := 1048576
structure Fd (d C : Nat) (f : Nat → Rat) : Prop where
 mon : Q.Mon d f
 pos : 1 ≤ d
 low : d ≤ 12
 bd : ∀ j, Bd 1 C (f j)
 small : C < Dg.B ^ KD
theorem bd_fit {D B : Nat} {x : Rat} (h : Bd D B x) (h0 : 0 < D) (hD : D < Dg.B ^ KD) (hB : B < Dg.B ^ KD) : qlen x ≤ KD := h.len h0 hD hB (by decide)
theorem one_lt_kd : 1 < Dg.B ^ KD := Nat.lt_of_lt_of_le (show 1 < Dg.B ^ 1 by decide) (Nat.pow_le_pow_right (by decide) (by decide))
theorem rnormal_ok {n d D B C : Nat} {q : Nat → RawR} {p f : Nat → Rat} (hF : Fd d C f) (hp : Q.qx n (fun i => (q i).val) = p) (hn : n ≤ 64) (hq : ∀ i, i < n → (q i).Fit KD) (h0 : 0 < D) (hD : D < Dg.B ^ KD) (hb : ∀ k, Bd D B (p k)) (hB : B * (1 + C) ^ n < Dg.B ^ KD) : ∃ r, Q.Rm d f p r ∧ (∀ k, Bd D (B * (1 + C) ^ n) (r k)) ∧ FnOK Tryz.prog true 108 [ringP d f, .c (ql n q)] (.c (nql (Q.tq r d) r)) := by
 have fp : Q.Fin n p := by rw [← hp]; exact Q.qx_fin _ _
 have hm := Q.tq_le p n
 have hst : ∀ t k, t ≤ Q.tq p n - d → Bd D (B * (1 + C) ^ n) (Q.dvs d f (Q.tq p n - d) p t k) := fun t k ht => (Q.dvs_bd hb hF.bd t k).mono (Nat.mul_le_mul_left _ (Nat.pow_le_pow_right (by omega) (by omega)))
 have hlow := hF.low
 exact ⟨Q.rst d f p (Q.tq p n), Q.rst_rm hF.mon (Q.tq_fin fp), fun k => hst _ k (Nat.le_refl _), rnormal_raw hp hF.mon (by omega) (by omega) hq (fun t k ht => bd_fit (hst t k ht) h0 hD hB) (fun j => bd_fit (hF.bd j) (by decide) one_lt_kd hF.small) (by decide) (by decide) (by decide)⟩
theorem rnormal_n {n d D B C : Nat} {p f : Nat → Rat} (hF : Fd d C f) (fp : Q.Fin n p) (hn : n ≤ 64) (h0 : 0 < D) (hD : D < Dg.B ^ KD) (hb : ∀ k, Bd D B (p k)) (hB : B * (1 + C) ^ n < Dg.B ^ KD) : ∃ r, Q.Rm d f p r ∧ (∀ k, Bd D (B * (1 + C) ^ n) (r k)) ∧ FnOK Tryz.prog true 108 [ringP d f, .c (nql n p)] (.c (nql (Q.tq r d) r)) := by
 have hB1 : B < Dg.B ^ KD := Nat.lt_of_le_of_lt (Nat.le_mul_of_pos_right B (Nat.pow_pos (by omega))) hB
 refine rnormal_ok (q := fun i => ofR (p i)) hF ?_ hn (fun i _ => ofR_fit (bd_fit (hb i) h0 hD hB1)) h0 hD hb hB
 rw [show (fun i => (ofR (p i)).val) = p from funext fun i => ofR_val _]
 exact Q.qx_self fp
theorem radd_ok {n m d D BA BB C : Nat} {q p : Nat → RawR} {A B f : Nat → Rat} (hF : Fd d C f) (hA : Q.qx n (fun i => (q i).val) = A) (hB : Q.qx m (fun i => (p i).val) = B) (hn : n ≤ 32) (hm : m ≤ 32) (hq : ∀ i, i < n → (q i).Fit KD) (hp : ∀ i, i < m → (p i).Fit KD) (h0 : 0 < D) (hD : D < Dg.B ^ KD) (bA : ∀ k, Bd D BA (A k)) (bB : ∀ k, Bd D BB (B k)) (hG : (BA + BB) * (1 + C) ^ 64 < Dg.B ^ KD) : ∃ r, Q.Rm d f (fun k => A k + B k) r ∧ (∀ k, Bd D ((BA + BB) * (1 + C) ^ 64) (r k)) ∧ FnOK Tryz.prog true 125 [ringP d f, .c (ql n q), .c (ql m p)] (.c (nql (Q.tq r d) r)) := by
 have h1 := qpAdd_ok (v := fun k => A k + B k) (L := KD) (fun i _ => by rw [hA, hB]) (by omega) (by omega) hq hp (by decide)
 have fA : Q.Fin (max n m) A := by rw [← hA]; exact (Q.qx_fin _ _).mono (Nat.le_max_left _ _)
 have fB : Q.Fin (max n m) B := by rw [← hB]; exact (Q.qx_fin _ _).mono (Nat.le_max_right _ _)
 have hT := Q.tq_fin (fA.add fB)
 have hl := Q.tq_le (fun k => A k + B k) (max n m)
 generalize Q.tq (fun k => A k + B k) (max n m) = T at *
 have hle : (BA + BB) * (1 + C) ^ T ≤ (BA + BB) * (1 + C) ^ 64 := Nat.mul_le_mul_left _ (Nat.pow_le_pow_right (by omega) (by omega))
 obtain ⟨r, r1, r2, r3⟩ := rnormal_n hF hT (by omega) h0 hD (fun k => (bA k).add (bB k)) (Nat.lt_of_le_of_lt hle hG)
 refine ⟨r, r1, fun k => (r2 k).mono hle, ?_⟩
 clear r1 r2 hle hl hT fA fB bA bB hG hq hp hA hB hF
 generalize Q.tq r d = Z at *
 generalize (fun k => A k + B k) = S at *
 refine fn_ok (E := E1) E1_ok Tryz.func125 rfl mixed (by kernel_rfl) (by kernel_rfl) ?_
 conv => whnf
 refine ⟨_, h1, ?_⟩
 conv => whnf
 refine ⟨_, r3, ?_⟩
 conv => whnf
 exact ⟨rfl, Sub.refl _⟩
end Rf
end Go.Proofs.YtmbejakmeijcbaaGreat
/- Number fields: the calls of sums and products; coordinates, and the letter. -/
namespace Go.Proofs.YtmbejakmeijcbaaGreat
open Go.RowKit
namespace Rf
set_option maxHeartbeats 4000000 in
theorem nAdd_ok {n d N M T : Nat} {c : Nat → RawZ} {f r : Nat → Rat} {q p : Nat → RawR} (ho : FnOK Tryz.prog true 89 [.g [zl n c]] (.t2 (ringP d f) (.c (.int .i64 0)))) (hr : FnOK Tryz.prog true 125 [ringP d f, .c (ql N q), .c (ql M p)] (.c (nql T r))) : FnOK Tryz.prog true 87 [.g [zl n c], .c (ql N q), .c (ql M p)] (.t2 (.c (nql T r)) (.c (.int .i64 0))) := by
 refine fn_ok (E := E1) E1_ok Tryz.func87 rfl mixed (by kernel_rfl) (by kernel_rfl) ?_
 conv => whnf
 refine ⟨_, ho, ?_⟩
 conv => whnf
 refine ⟨_, hr, ?_⟩
 conv => whnf
 exact ⟨rfl, Sub.refl _⟩
theorem qof_one : FnOK Tryz.prog true 44 [.c (.int .i64 1)] (.g (nq 1)) := by
 have h := qof_ok (n := 1) (by decide) (by decide)
 rwa [show ((1 : Int) : Rat) = 1 from rfl] at h
end Rf
end Go.Proofs.YtmbejakmeijcbaaGreat
/- The document's fractions in normal form: sign, comparison, product, sum; combinations of lists. -/
namespace Go.Proofs.YtmbejakmeijcbaaGreat
open Go.RowKit
namespace Rf
theorem lenZ {x : Rat} {L : Nat} (h : qlen x ≤ L) : zlen x.num ≤ L ∧ zlen (x.den : Int) ≤ L := by
 have h : max (zlen x.num) (zlen (x.den : Int)) ≤ L := h
 omega
end Rf
end Go.Proofs.YtmbejakmeijcbaaGreat
/- The document's lists of fractions: zeros, combinations. -/
namespace Go.Proofs.YtmbejakmeijcbaaGreat
open Go.RowKit
namespace Rf
end Rf
end Go.Proofs.YtmbejakmeijcbaaGreat
/- The document's matrices: rows. -/
namespace Go.Proofs.YtmbejakmeijcbaaGreat
open Go.RowKit
namespace Rf
end Rf
end Go.Proofs.YtmbejakmeijcbaaGreat
/- The document's matrices: a list times a matrix; a matrix of rows; products. -/
namespace Go.Proofs.YtmbejakmeijcbaaGreat
open Go.RowKit
namespace Rf
end Rf
end Go.Proofs.YtmbejakmeijcbaaGreat
/- The document's product of matrices. -/
namespace Go.Proofs.YtmbejakmeijcbaaGreat
open Go.RowKit
namespace Rf
end Rf
end Go.Proofs.YtmbejakmeijcbaaGreat
/- Lists and matrices are the same as themselves. -/
namespace Go.Proofs.YtmbejakmeijcbaaGreat
open Go.RowKit
namespace Rf
end Rf
end Go.Proofs.YtmbejakmeijcbaaGreat
/- Rows of fractions: zeros, normal forms. -/
namespace Go.Proofs.YtmbejakmeijcbaaGreat
open Go.RowKit
def rows (sz n : Nat) (g : Nat → List Cell) : V := .c (.row sz n fun i j => (g i).getD j .any)
structure Filled (n i : Nat) (g : Nat → List Cell) (f : Nat → Nat → Cell) : Prop where
 done : ∀ i' j, i' < i → j < 4 → f i' j = (g i').getD j .any
 clos : ∀ i' j, i' < n → j < 4 → (f i' j).clos = true
end Go.Proofs.YtmbejakmeijcbaaGreat
/- Rows that are written: combine; vectors times rows. -/
namespace Go.Proofs.YtmbejakmeijcbaaGreat
open Go.RowKit
end Go.Proofs.YtmbejakmeijcbaaGreat
/- Matrices: rows put one behind the other. -/
namespace Go.Proofs.YtmbejakmeijcbaaGreat
open Go.RowKit
end Go.Proofs.YtmbejakmeijcbaaGreat
/- Package charpoly: the first errors. -/
namespace Go.Proofs.YtmbejakmeijcbaaGreat
open Go.RowKit
end Go.Proofs.YtmbejakmeijcbaaGreat
/- Rows of rows: blank. -/
namespace Go.Proofs.YtmbejakmeijcbaaGreat
open Go.RowKit
end Go.Proofs.YtmbejakmeijcbaaGreat
/- Package matrix: New. -/
namespace Go.Proofs.YtmbejakmeijcbaaGreat
open Go.RowKit
end Go.Proofs.YtmbejakmeijcbaaGreat
/- Matrices in the program: rows stored. -/
namespace Go.Proofs.YtmbejakmeijcbaaGreat
open Go.RowKit
namespace Rf
end Rf
end Go.Proofs.YtmbejakmeijcbaaGreat
/- Matrices in the program: rows loaded. -/
namespace Go.Proofs.YtmbejakmeijcbaaGreat
open Go.RowKit
namespace Rf
structure Grd (m : Nat) (G : Nat → Nat → Rat) (F C : Nat → Nat → Cell) : Prop where
 old : ∀ i k, k < i → F i k = nql m (G k)
 new : ∀ i k, i ≤ k → F i k = .nil
 old' : ∀ i k, k < i → C i k = nql m (G k)
 at' : ∀ i, C i i = .gs 2 0
 new' : ∀ i k, i < k → C i k = .nil
end Rf
end Go.Proofs.YtmbejakmeijcbaaGreat
/- Matrices in the program: from rows; the matrix of a multiplication. -/
namespace Go.Proofs.YtmbejakmeijcbaaGreat
open Go.RowKit
namespace Rf
end Rf
end Go.Proofs.YtmbejakmeijcbaaGreat
/- Matrices in the program, whatever fractions their elements are: rows loaded. -/
namespace Go.Proofs.YtmbejakmeijcbaaGreat
open Go.RowKit
namespace Rf
end Rf
end Go.Proofs.YtmbejakmeijcbaaGreat
/- Matrices in the program, whatever fractions their elements are: products. -/
namespace Go.Proofs.YtmbejakmeijcbaaGreat
open Go.RowKit
namespace Rf
end Rf
end Go.Proofs.YtmbejakmeijcbaaGreat
/- Matrices in the program, whatever fractions their elements are: sums, multiples. -/
namespace Go.Proofs.YtmbejakmeijcbaaGreat
open Go.RowKit
namespace Rf
end Rf
end Go.Proofs.YtmbejakmeijcbaaGreat
/- Number fields: sums, products and matrices of multiplications of bounded elements. -/
namespace Go.Proofs.YtmbejakmeijcbaaGreat
open Go.RowKit
namespace Rf
structure Ev (N : Nat) (q : Nat → RawR) (A : Nat → Rat) (D e : Nat) : Prop where
 val : Q.qx N (fun i => (q i).val) = A
 len : N ≤ 32
 fit : ∀ i, i < N → (q i).Fit KD
 bd : ∀ k, Bd D (2 ^ e) (A k)
structure Fk (n : Nat) (c : Nat → RawZ) (d : Nat) (f : Nat → Rat) : Prop where
 opn : FnOK Tryz.prog true 89 [.g [zl n c]] (.t2 (ringP d f) (.c (.int .i64 0)))
 fd : Fd d 255 f
theorem pow_B (L : Nat) : Dg.B ^ L = 2 ^ (32 * L) := (Nat.pow_mul 2 32 L).symm
theorem pow_lt_B {e L : Nat} (h : e < 32 * L) : 2 ^ e < Dg.B ^ L := by
 rw [pow_B]
 exact Nat.pow_lt_pow_right (by decide) h
theorem two_lt {e : Nat} (h : e ≤ 1000000) : 2 ^ e < Dg.B ^ KD := pow_lt_B (L := KD) (by show e < 32 * 1048576; omega)
theorem le_lim {D : Nat} (h : D ≤ 2 ^ 1000000) : D < Dg.B ^ KD := Nat.lt_of_le_of_lt h (two_lt (e := 1000000) (Nat.le_refl _))
theorem one_le_pow2 (e : Nat) : 1 ≤ 2 ^ e := Nat.one_le_two_pow
theorem pow_c (a n : Nat) : 2 ^ a * (1 + 255) ^ n = 2 ^ (a + 8 * n) := by
 rw [show (1 + 255 : Nat) = 2 ^ 8 from rfl, ← Nat.pow_mul, ← Nat.pow_add]
theorem Ev.fin {N : Nat} {q : Nat → RawR} {A : Nat → Rat} {D e : Nat} (h : Ev N q A D e) : Q.Fin N A := by
 rw [← h.val]; exact Q.qx_fin _ _
theorem ev_n {d D e : Nat} {r : Nat → Rat} (hr : Q.Fin d r) (hd : d ≤ 12) (hb : ∀ k, Bd D (2 ^ e) (r k)) (h0 : 0 < D) (hD : D ≤ 2 ^ 1000000) (he : e ≤ 1000000) : Ev (Q.tq r d) (fun i => ofR (r i)) r D e :=
 ⟨by
  rw [show (fun i => (ofR (r i)).val) = r from funext fun i => ofR_val _]
  exact Q.qx_self (Q.tq_fin hr), by have := Q.tq_le r d; omega, fun i _ => ofR_fit (bd_fit (hb i) h0 (le_lim hD) (two_lt he)), hb⟩
theorem nAdd_e {n d N M D e : Nat} {c : Nat → RawZ} {f A B : Nat → Rat} {q p : Nat → RawR} (hk : Fk n c d f) (hA : Ev N q A D e) (hB : Ev M p B D e) (h0 : 0 < D) (hD : D ≤ 2 ^ 1000000) (he : e ≤ 100000) : ∃ r, Q.Rm d f (fun k => A k + B k) r ∧ Ev (Q.tq r d) (fun i => ofR (r i)) r D (e + 513) ∧ FnOK Tryz.prog true 87 [.g [zl n c], .c (ql N q), .c (ql M p)] (.t2 (.c (nql (Q.tq r d) r)) (.c (.int .i64 0))) := by
 have hw : (2 ^ e + 2 ^ e) * (1 + 255) ^ 64 = 2 ^ (e + 513) := by
  rw [← Nat.two_mul, ← Nat.pow_succ', pow_c]
 have hD' := le_lim hD
 obtain ⟨r, r1, r2, r3⟩ := radd_ok hk.fd hA.val hB.val hA.len hB.len hA.fit hB.fit h0 hD' hA.bd hB.bd (by rw [hw]; exact two_lt (by omega))
 rw [hw] at r2
 exact ⟨r, r1, ev_n r1.1 hk.fd.low r2 h0 hD (by omega), nAdd_ok hk.opn r3⟩
theorem two_mul_le {D D' a b : Nat} (h : D ≤ 2 ^ a) (h' : D' ≤ 2 ^ b) : D * D' ≤ 2 ^ (a + b) := by
 rw [Nat.pow_add]
 exact Nat.mul_le_mul h h'
end Rf
end Go.Proofs.YtmbejakmeijcbaaGreat
/- The law's test of a field: its list short, well-formed, of small degree and small coefficients. -/
namespace Go.Proofs.YtmbejakmeijcbaaGreat
open Go.RowKit
namespace Rf
end Rf
end Go.Proofs.YtmbejakmeijcbaaGreat
/- The law NumfieldField: its calls, one behind the other, and what they hand back. -/
namespace Go.Proofs.YtmbejakmeijcbaaGreat
open Go.RowKit
theorem su_bd {D B : Nat} {f : Nat → Rat} (h : ∀ i, Bd D B (f i)) : ∀ n, Bd D (n * B) (Q.su f n)
 | 0 => Bd.zero _ _
 | n + 1 => by
  rw [Nat.add_mul, Nat.one_mul]
  exact (su_bd h n).add (h n)
namespace Rf
theorem pow_le2 {a b : Nat} (h : a ≤ b) : 2 ^ a ≤ 2 ^ b := Nat.pow_le_pow_right (by decide) h
theorem le_pow {D a b : Nat} (h : D ≤ 2 ^ a) (e : a ≤ b) : D ≤ 2 ^ b := Nat.le_trans h (pow_le2 e)
theorem mul_le_pow {D E a b c : Nat} (h : D ≤ 2 ^ a) (h' : E ≤ 2 ^ b) (e : a + b = c) : D * E ≤ 2 ^ c := e ▸ two_mul_le h h'
end Rf
end Go.Proofs.YtmbejakmeijcbaaGreat
/- Substitutions x -> x^t from one quotient by a monic polynomial into another. No condition. -/
namespace Go.Proofs.YtmbejakmeijcbaaGreat
namespace Q
def sb (t m : Nat) (A : Nat → Rat) (j : Nat) : Rat := su (fun i => A i * xp (i * t) j) m
structure Hom (d : Nat) (f : Nat → Rat) (d' : Nat) (g : Nat → Rat) (t : Nat) : Prop where
 mon : Mon d f
 mon' : Mon d' g
 zero : Rm d' g (sb t (d + 1) f) fun _ => 0
end Q
end Go.Proofs.YtmbejakmeijcbaaGreat
/- Quotients by integer polynomials told by tables of the letter's powers: checks of the tables and what they give. No condition. -/
namespace Go.Proofs.YtmbejakmeijcbaaGreat
namespace Q
def fr (l : List Int) (i : Nat) : Rat := ((l.getD i 0 : Int) : Rat)
theorem fr_fin (l : List Int) : Fin l.length (fr l) := fun i hi => by
 unfold fr
 rw [List.getD_eq_getElem?_getD, List.getElem?_eq_none hi]; rfl
def isu (f : Nat → Int) : Nat → Int
 | 0 => 0
 | n + 1 => isu f n + f n
abbrev row (T : List (List Int)) (k : Nat) : List Int := T.getD k []
def tabB (n d : Nat) (φ : List Int) (T : List (List Int)) : Bool :=
 decide (1 ≤ n) && decide (1 ≤ d) && decide (d ≤ 12) && decide (n ≤ 42) && (φ.length == d + 1) && (φ.getD d 0 == 1) && (T.length == n) && T.all (fun l => decide (l.length ≤ d)) &&
  ((List.range d).all fun j => (row T 0).getD j 0 == if j == 0 then 1 else 0) &&
  (List.range n).all fun k => (List.range d).all fun j => (row T ((k + 1) % n)).getD j 0 == (if j == 0 then 0 else (row T k).getD (j - 1) 0) - (row T k).getD (d - 1) 0 * φ.getD j 0
theorem row_fin {d : Nat} {T : List (List Int)} (h : T.all (fun l => decide (l.length ≤ d)) = true) (k : Nat) : Fin d (fr (row T k)) := by
 refine (fr_fin _).mono ?_
 show (T.getD k []).length ≤ d
 rw [List.getD_eq_getElem?_getD]
 cases hx : T[k]? with
 | none => exact Nat.zero_le _
 | some l => exact of_decide_eq_true (List.all_eq_true.1 h l (List.mem_of_getElem? hx))
structure Tab (n d : Nat) (f : Nat → Rat) (T : List (List Int)) : Prop where
 n1 : 1 ≤ n
 n2 : n ≤ 42
 d1 : 1 ≤ d
 d2 : d ≤ 12
 mon : Mon d f
 fin : ∀ k, Fin d (fr (row T k))
 zero : ∀ k, fr (row T 0) k = xp 0 k
 rm : ∀ k, Rm d f (xp k) (fr (row T (k % n)))
theorem cf_xp1 (r : Nat → Rat) (j : Nat) : cf r (xp 1) j = if 1 ≤ j then r (j - 1) else 0 := by
 rw [cf_comm, cf_xp]
theorem rm_next {d : Nat} {f r r' : Nat → Rat} (hf : Mon d f) (hd : 1 ≤ d) (hr : Fin d r) (hr' : Fin d r') (h : ∀ j, j < d → r' j = (if j = 0 then 0 else r (j - 1)) - r (d - 1) * f j) : Rm d f (cf r (xp 1)) r' := by
 refine ⟨hr', 1, fun i => if i = 0 then r (d - 1) else 0, fun i hi => if_neg (by omega), fun k => ?_⟩
 have e := cf_mono (r (d - 1)) 0 f k
 rw [if_pos (Nat.zero_le k), Nat.sub_zero] at e
 rw [e, cf_xp1]
 rcases Nat.lt_or_ge k d with c | c
 ·rw [h k c]
  by_cases c' : k = 0
  ·rw [if_neg (by omega), if_pos c']; grind
  ·rw [if_pos (by omega), if_neg c']; grind
 ·rw [hr' k c, if_pos (by omega)]
  rcases Nat.lt_or_ge d k with c' | c'
  ·rw [hr (k - 1) (by omega), hf.fin k (by omega)]; grind
  ·rw [show k = d by omega, hf.top]; grind
theorem tab_ok {n d : Nat} {φ : List Int} {T : List (List Int)} (h : tabB n d φ T = true) : Tab n d (fr φ) T := by
 unfold tabB at h
 simp only [Bool.and_eq_true, decide_eq_true_eq, beq_iff_eq] at h
 obtain ⟨⟨⟨⟨⟨⟨⟨⟨⟨h1, h2⟩, h3⟩, h4⟩, h5⟩, h6⟩, _⟩, h8⟩, h9⟩, h10⟩ := h
 have hm : Mon d (fr φ) := ⟨by unfold fr; rw [h6]; rfl, by rw [← h5]; exact fr_fin φ⟩
 have hz : ∀ k, fr (row T 0) k = xp 0 k := fun k => by
  rcases Nat.lt_or_ge k d with c | c
  ·have := beq_iff_eq.1 (List.all_eq_true.1 h9 k (List.mem_range.2 c))
   unfold fr xp
   rw [this]
   by_cases e : k = 0
   ·subst e; rfl
   ·rw [if_neg (by simpa using e), if_neg e]; rfl
  ·rw [row_fin h8 0 k c, show xp 0 k = 0 from if_neg (by omega)]
 refine ⟨h1, h4, h2, h3, hm, row_fin h8, hz, fun k => ?_⟩
 induction k with
 | zero =>
  rw [Nat.zero_mod]
  exact (Rm.self (row_fin h8 0)).congr hz
 | succ k ih =>
  have hk : k % n < n := Nat.mod_lt _ h1
  have e : (k % n + 1) % n = (k + 1) % n := by rw [Nat.mod_add_mod]
  have h11 := List.all_eq_true.1 h10 (k % n) (List.mem_range.2 hk)
  rw [e] at h11
  refine (ih.mul (xp_fin 1) (rm_next hm h2 (row_fin h8 _) (row_fin h8 _) fun j hj => ?_)).congr fun j => xp_add k 1 j
  have := beq_iff_eq.1 (List.all_eq_true.1 h11 j (List.mem_range.2 hj))
  unfold fr
  rw [this, Rat.intCast_sub, Rat.intCast_mul]
  by_cases c : j = 0
  ·subst c; rfl
  ·rw [if_neg (by simpa using c), if_neg c]
def im (n t m : Nat) (T : List (List Int)) (A : Nat → Rat) (j : Nat) : Rat := su (fun i => A i * fr (row T (i * t % n)) j) m
theorem Tab.im_rm {n d : Nat} {f : Nat → Rat} {T : List (List Int)} (h : Tab n d f T) (t m : Nat) (A : Nat → Rat) : Rm d f (sb t m A) (im n t m T A) :=
 Rm.su A (fun i => h.rm (i * t)) m
theorem Tab.im_fin {n d : Nat} {f : Nat → Rat} {T : List (List Int)} (h : Tab n d f T) (t m : Nat) (A : Nat → Rat) : Fin d (im n t m T A) := (h.im_rm t m A).1
theorem im_more {n t m m' : Nat} {T : List (List Int)} {A : Nat → Rat} (h : Fin m A) (hm : m ≤ m') : im n t m' T A = im n t m T A := funext fun _ => su_more (fun i hi => by rw [h i hi, Rat.zero_mul]) hm
def homB (d n' d' t : Nat) (φ : List Int) (T' : List (List Int)) : Bool := (List.range d').all fun j => isu (fun i => φ.getD i 0 * (row T' (i * t % n')).getD j 0) (d + 1) == 0
def unitB (n d : Nat) (φ : List Int) (T : List (List Int)) : Bool := (List.range n).all fun t => Nat.gcd t n != 1 || homB d n d t φ T
def trc (n d : Nat) (T : List (List Int)) (k : Nat) : Int := isu (fun i => (row T ((k + i) % n)).getD i 0) d
def sumB (n d : Nat) (T : List (List Int)) : Bool := (List.range n).all fun k => (List.range d).all fun j => isu (fun t => if Nat.gcd (t + 1) n == 1 then (row T (k * (t + 1) % n)).getD j 0 else 0) n == if j == 0 then trc n d T k else 0
def distB (n d : Nat) (T : List (List Int)) : Bool := (List.range n).all fun i => (List.range i).all fun j => (List.range d).any fun p => !((row T i).getD p 0 == (row T j).getD p 0)
end Q
end Go.Proofs.YtmbejakmeijcbaaGreat
/- Traces, sums of conjugates, lifts that can be undone, in a quotient told by a table. No condition. -/
namespace Go.Proofs.YtmbejakmeijcbaaGreat
namespace Q
def dg (n d m : Nat) (T : List (List Int)) (A : Nat → Rat) : Rat := su (fun l => A l * ((trc n d T l : Int) : Rat)) m
end Q
end Go.Proofs.YtmbejakmeijcbaaGreat
/- Cyclotomic fields in the program: a field's facts; monomials, images, normal forms. -/
namespace Go.Proofs.YtmbejakmeijcbaaGreat
open Go.RowKit
namespace Rf
structure Cy (n d : Nat) (φ : List Int) (T : List (List Int)) : Prop where
 tab : Q.Tab n d (Q.fr φ) T
 unit : Q.unitB n d φ T = true
 sum : Q.sumB n d T = true
 dist : Q.distB n d T = true
 bd : ∀ k j, Bd 1 255 (Q.fr (Q.row T k) j)
 len : ∀ i, zlen (Z.gl φ i) ≤ 2
 fk : Fk (d + 1) (fun i => ofZ (Z.gl φ i)) d (Q.fr φ)
 fld : FnOK Tryz.prog true 31 [.c (.int .i64 n)] (.t2 (.g [nl (d + 1) (Z.gl φ)]) (.c (.int .i64 0)))
 chk : FnOK Tryz.prog true 42 [.c (.int .i64 n)] (.c (.int .i64 0))
 pol : FnOK Tryz.prog false 47 [.c (.int .i64 n)] (.c (nl (d + 1) (Z.gl φ)))
 fails : FnOK Tryz.prog false 11 [.c (.int .i64 n)] (.c (.int .i64 0))
def tinyL (l : List Int) : Bool := l.all fun x => decide (x.natAbs ≤ 255)
theorem tinyL_bd {l : List Int} (h : tinyL l = true) (j : Nat) : (l.getD j 0).natAbs ≤ 255 := by
 rw [List.getD_eq_getElem?_getD]
 cases hx : l[j]? with
 | none => exact Nat.zero_le _
 | some x => exact of_decide_eq_true (List.all_eq_true.1 h x (List.mem_of_getElem? hx))
theorem tiny_bd {l : List Int} (h : tinyL l = true) (j : Nat) : Bd 1 255 (Q.fr l j) := (Bd.int (l.getD j 0)).mono (tinyL_bd h j)
def tinyT (T : List (List Int)) : Bool := T.all tinyL
theorem tinyT_bd {T : List (List Int)} (h : tinyT T = true) (k j : Nat) : Bd 1 255 (Q.fr (Q.row T k) j) := by
 show Bd 1 255 (Q.fr (T.getD k []) j)
 rw [List.getD_eq_getElem?_getD]
 cases hx : T[k]? with
 | none => exact Bd.zero _ _
 | some l => exact tiny_bd (List.all_eq_true.1 h l (List.mem_of_getElem? hx)) j
def tinyP (d : Nat) (φ : List Int) : Bool := tinyL φ && (φ.length == d + 1) && (φ.getD d 0 == 1)
set_option maxHeartbeats 4000000 in
theorem fld_ok {n : Int} {d : Nat} {v : Nat → Int} (hc : FnOK Tryz.prog true 42 [.c (.int .i64 n)] (.c (.int .i64 0))) (hp : FnOK Tryz.prog true 35 [.c (.int .i64 n)] (.t2 (.c (nl (d + 1) v)) (.c (.int .i64 0)))) : FnOK Tryz.prog true 31 [.c (.int .i64 n)] (.t2 (.g [nl (d + 1) v]) (.c (.int .i64 0))) := by
 refine fn_ok (E := E1) E1_ok Tryz.func31 rfl mixed (by kernel_rfl) (by kernel_rfl) ?_
 conv => whnf
 refine ⟨_, hc, ?_⟩
 conv => whnf
 refine ⟨_, hp, ?_⟩
 conv => whnf
 exact ⟨rfl, Sub.refl _⟩
set_option maxHeartbeats 4000000 in
theorem nNormal_ok {n d N T : Nat} {c : Nat → RawZ} {f r : Nat → Rat} {q : Nat → RawR} (ho : FnOK Tryz.prog true 89 [.g [zl n c]] (.t2 (ringP d f) (.c (.int .i64 0)))) (hr : FnOK Tryz.prog true 108 [ringP d f, .c (ql N q)] (.c (nql T r))) : FnOK Tryz.prog true 76 [.g [zl n c], .c (ql N q)] (.t2 (.c (nql T r)) (.c (.int .i64 0))) := by
 refine fn_ok (E := E1) E1_ok Tryz.func76 rfl mixed (by kernel_rfl) (by kernel_rfl) ?_
 conv => whnf
 refine ⟨_, ho, ?_⟩
 conv => whnf
 refine ⟨_, hr, ?_⟩
 conv => whnf
 exact ⟨rfl, Sub.refl _⟩
theorem pow_e {e n : Nat} (hn : n ≤ 64) : 2 ^ e * (1 + 255) ^ n ≤ 2 ^ (e + 512) := by
 rw [pow_c]
 exact Nat.pow_le_pow_right (by decide) (by omega)
theorem nNormal_r {n d N D e : Nat} {c : Nat → RawZ} {f A r : Nat → Rat} {q : Nat → RawR} (hk : Fk n c d f) (hA : Q.qx N (fun i => (q i).val) = A) (hN : N ≤ 64) (hq : ∀ i, i < N → (q i).Fit KD) (hb : ∀ k, Bd D (2 ^ e) (A k)) (h0 : 0 < D) (hD : D ≤ 2 ^ 1000000) (he : e ≤ 100000) (hr : Q.Rm d f A r) : (∀ k, Bd D (2 ^ (e + 512)) (r k)) ∧ FnOK Tryz.prog true 76 [.g [zl n c], .c (ql N q)] (.t2 (.c (nql (Q.tq r d) r)) (.c (.int .i64 0))) := by
 obtain ⟨s, s1, s2, s3⟩ := rnormal_ok hk.fd hA hN hq h0 (le_lim hD) hb (Nat.lt_of_le_of_lt (pow_e hN) (two_lt (by omega)))
 have e1 : r = s := funext (hr.eq hk.fd.mon s1)
 rw [e1]
 exact ⟨fun k => (s2 k).mono (pow_e hN), nNormal_ok hk.opn s3⟩
theorem nAdd_r {n d N M D e : Nat} {c : Nat → RawZ} {f A B r : Nat → Rat} {q p : Nat → RawR} (hk : Fk n c d f) (hA : Ev N q A D e) (hB : Ev M p B D e) (h0 : 0 < D) (hD : D ≤ 2 ^ 1000000) (he : e ≤ 100000) (hr : Q.Rm d f (fun k => A k + B k) r) : FnOK Tryz.prog true 87 [.g [zl n c], .c (ql N q), .c (ql M p)] (.t2 (.c (nql (Q.tq r d) r)) (.c (.int .i64 0))) := by
 obtain ⟨s, s1, _, s3⟩ := nAdd_e hk hA hB h0 hD he
 have e1 : r = s := funext (hr.eq hk.fd.mon s1)
 rw [e1]
 exact s3
def mq (K : Nat) (c : Rat) (i : Nat) : RawR := if i = K then ofR c else zraw
theorem mq_val (K : Nat) (c : Rat) : Q.qx (K + 1) (fun i => (mq K c i).val) = fun j => c * Q.xp K j := funext fun j => by
 by_cases e : j = K
 ·subst e
  show (if j < j + 1 then (if j = j then ofR c else zraw).val else 0) = c * (if j = j then 1 else 0)
  rw [if_pos (by omega), if_pos rfl, if_pos rfl, ofR_val, Rat.mul_one]
 ·show (if j < K + 1 then (if j = K then ofR c else zraw).val else 0) = c * (if j = K then 1 else 0)
  rw [if_neg e, if_neg e, Rat.mul_zero, zraw_val]
  split <;> rfl
theorem mq_fit {K i : Nat} {c : Rat} {L : Nat} (h : qlen c ≤ L) : (mq K c i).Fit L := by
 unfold mq
 split
 ·exact ofR_fit h
 ·exact zraw_fit L
theorem mq_cells {K q x j : Nat} {c : Rat} {bl : List Blk} {ks : List (Option Nat)} (hj : j < 4) : regC q bl ks (qlF (mq K c) x j) fun y => updF (fun _ j => zcells.getD j .any) K 0 (nq c) x j = y := by
 by_cases e : x = K
 ·subst e
  refine regE ?_ (ql_clos (c := mq x c) x j)
  exact updG (sz := 4) (g := fun _ => zcells) (g' := fun i => if i = x then nq c else zcells) (l := nq c) rfl hj (by rw [if_pos rfl]) |>.trans (by
   unfold qlF mq
   rw [if_pos rfl, if_pos rfl])
 ·have h1 : updF (fun _ j => zcells.getD j .any) K 0 (nq c) x j = zcells.getD j .any := updG (sz := 4) (g := fun _ => zcells) (g' := fun _ => zcells) (l := nq c) rfl hj (if_neg e)
  unfold qlF mq
  rw [if_neg e]
  match j, hj with
  | 0, _ => exact ⟨_, h1, rfl⟩
  | 1, _ => exact .inr (.inl ⟨rfl, h1⟩)
  | 2, _ => exact ⟨_, h1, rfl⟩
  | 3, _ => exact .inr (.inl ⟨rfl, h1⟩)
theorem mono_bd {D e K : Nat} {c : Rat} (h : Bd D (2 ^ e) c) (j : Nat) : Bd D (2 ^ e) (c * Q.xp K j) := by
 unfold Q.xp
 split
 ·rw [Rat.mul_one]; exact h
 ·rw [Rat.mul_zero]; exact Bd.zero _ _
def mn (n : Nat) (T : List (List Int)) (c : Rat) (k : Int) (j : Nat) : Rat := c * Q.fr (Q.row T (k % (n : Int)).toNat) j
theorem Cy.mn_rm {n d : Nat} {φ : List Int} {T : List (List Int)} (C : Cy n d φ T) (c : Rat) (k : Int) : Q.Rm d (Q.fr φ) (fun j => c * Q.xp (k % (n : Int)).toNat j) (mn n T c k) := by
 have h := C.tab.rm (k % (n : Int)).toNat
 have hn := C.tab.n1
 rw [Nat.mod_eq_of_lt (by have := Int.emod_lt_of_pos k (show (0 : Int) < n by omega); omega)] at h
 exact h.smul c
theorem Cy.mn_fin {n d : Nat} {φ : List Int} {T : List (List Int)} (C : Cy n d φ T) (c : Rat) (k : Int) : Q.Fin d (mn n T c k) := (C.mn_rm c k).1
set_option maxHeartbeats 8000000 in
theorem Cy.mono_ok {n d D e : Nat} {φ : List Int} {T : List (List Int)} (C : Cy n d φ T) {k : Int} {c : Rat} (hc : Bd D (2 ^ e) c) (h0 : 0 < D) (hD : D ≤ 2 ^ 1000000) (he : e ≤ 100000) : FnOK Tryz.prog true 43 [.c (.int .i64 n), .c (.int .i64 k), .g (nq c)] (.c (nql (Q.tq (mn n T c k) d) (mn n T c k))) := by
 have n1 := C.tab.n1
 have n2 := C.tab.n2
 have e0 := Int.emod_lt_of_pos k (show (0 : Int) < n by omega)
 have e1 := Int.emod_nonneg k (show (n : Int) ≠ 0 by omega)
 obtain ⟨K, hK⟩ : ∃ K : Nat, K = (k % (n : Int)).toNat := ⟨_, rfl⟩
 have t0 := @Int.emod_eq_tmod k n
 have t1 : Int.tmod k n < 0 → Int.tmod k n + n = (K : Int) := fun h => by
  split at t0 <;> omega
 have t2 : ¬ Int.tmod k n < 0 → Int.tmod k n = (K : Int) := fun h => by
  split at t0 <;> omega
 have t3 : -(n : Int) < Int.tmod k n ∧ Int.tmod k n < n := ⟨by have := Int.lt_tmod_of_pos k (show (0 : Int) < n by omega); omega, Int.tmod_lt_of_pos k (by omega)⟩
 have hr := C.mn_rm c k
 rw [← hK] at hr
 have hN := (nNormal_r (N := K + 1) (q := mq K c) C.fk (mq_val K c) (by omega) (fun i _ => mq_fit (bd_fit hc h0 (le_lim hD) (two_lt (by omega)))) (mono_bd hc) h0 hD he hr).2
 have hF := C.fld
 clear hr hc t0
 generalize mn n T c k = r at *
 generalize Q.tq r d = L at *
 generalize Z.gl φ = P at *
 clear C
 rcases Classical.em (Int.tmod k n < 0) with h | h
 all_goals
  refine fn_okS (E := E1) E1_ok Tryz.func43 rfl (by kernel_rfl) ?_
  refine swp_seq0 E1_ok mixed (by kernel_rfl) ?_
  conv => whnf
  refine swp_seq0 E1_ok mixed (by kernel_rfl) ?_
  conv => whnf
  refine ⟨_, hF, ?_⟩
  conv => whnf
  refine swp_seq E1_ok mixed (by kernel_rfl) ?_
  conv => whnf
  refine ⟨by omega, ?_⟩
  conv => whnf
  first
   |refine bpos (show decide (Int.tmod k n < 0) = true from decide_eq_true h) ?_
    conv => whnf
    refine ⟨i64 (by omega) (by omega), ?_⟩
    conv => whnf
   |refine bneg (show decide (Int.tmod k n < 0) = false from decide_eq_false h) ?_
    conv => whnf
  refine ⟨gst [(1, .c (.int .i64 (K : Int))), (5, .c (.p 0 0 4 0 0)), (7, .c (.p 1 0 1 0 0))] [⟨46, 4, 1, boxF (nq c)⟩, ⟨34, 1, 1, boxF [nl (d + 1) P]⟩], Weak.gen [some 0, some 1] rfl ⟨boxK rfl rfl, boxU rfl rfl rfl, trivial⟩ ⟨⟨_, rfl, by first | exact t1 h | exact t2 h⟩, ⟨_, rfl, rfl, rfl⟩, ⟨_, rfl, rfl, rfl⟩, trivial⟩, ?_⟩
  refine swp_seq0 E1_ok mixed (by kernel_rfl) ?_
  conv => whnf
  refine ⟨i64 (by omega) (by omega), ?_⟩
  conv => whnf
  refine ⟨by omega, Int.le_refl _, by omega, by show (64 : Int) * ((K : Int) + 1) ≤ 281474976710656; omega, ?_⟩
  conv => whnf
  refine swp_seq E1_ok mixed (by kernel_rfl) ?_
  conv => whnf
  refine ⟨by omega, by show (K : Int) < (((K : Int) + 1).toNat : Int); omega, ?_⟩
  conv => whnf
  refine ⟨gst [(7, .c (.p 0 0 1 0 0)), (9, .c (.gs 1 0))] [⟨34, 1, 1, boxF [nl (d + 1) P]⟩, gqr (K + 1) (mq K c)], Weak.gen [some 1, some 2] rfl ⟨boxK rfl rfl, ⟨_, rfl, rfl, rfl, by show ((K : Int) + 1).toNat = K + 1; omega, rfl, fun x j hx hj => ?_⟩, trivial⟩ ⟨⟨_, rfl, rfl, rfl⟩, ⟨_, rfl, rfl, rfl⟩, trivial⟩, ?_⟩
  ·exact mq_cells (K := K) (c := c) hj
  refine swp_seq0 E1_ok mixed (by kernel_rfl) ?_
  conv => whnf
  refine ⟨fun i j _ _ => ql_clos (c := mq K c) i j, ?_⟩
  conv => whnf
  refine ⟨_, hN, ?_⟩
  conv => whnf
  refine swp_of E1_ok mixed (by kernel_rfl) ?_
  conv => whnf
  exact ⟨rfl, Sub.refl _⟩
theorem im_bd {n d t m D e : Nat} {φ : List Int} {T : List (List Int)} (C : Cy n d φ T) {A : Nat → Rat} (hm : m ≤ 16) (hA : ∀ k, Bd D (2 ^ e) (A k)) (j : Nat) : Bd D (2 ^ (e + 12)) (Q.im n t m T A j) := by
 have h1 : ∀ i, Bd D (2 ^ e * 255) (A i * Q.fr (Q.row T (i * t % n)) j) := fun i => by
  have := (hA i).mul (C.bd (i * t % n) j)
  rwa [Nat.mul_one] at this
 refine (su_bd h1 m).mono ?_
 have h2 : m * (2 ^ e * 255) ≤ 2 ^ 12 * 2 ^ e := by
  rw [Nat.mul_comm (2 ^ e), ← Nat.mul_assoc]
  exact Nat.mul_le_mul_right _ (by omega)
 rwa [← Nat.pow_add, Nat.add_comm] at h2
theorem mn_eq (n t i : Nat) (T : List (List Int)) (c : Rat) : mn n T c ((i : Int) * (t : Int)) = fun j => c * Q.fr (Q.row T (i * t % n)) j := funext fun j => by
 unfold mn
 rw [show (((i : Int) * (t : Int)) % (n : Int)).toNat = i * t % n by rw [← Int.natCast_mul, ← Int.natCast_emod, Int.toNat_natCast]]
set_option maxHeartbeats 8000000 in
theorem Cy.image_ok {n d t N D e : Nat} {φ : List Int} {T : List (List Int)} (C : Cy n d φ T) {r : Nat → Rat} (ht : t ≤ 1000) (hN : N ≤ 16) (hr : ∀ k, Bd D (2 ^ e) (r k)) (h0 : 0 < D) (hD : D ≤ 2 ^ 1000000) (he : e ≤ 50000) : FnOK Tryz.prog true 55 [.c (.int .i64 n), .c (.int .i64 t), .c (nql N r)] (.c (nql (Q.tq (Q.im n t N T r) d) (Q.im n t N T r))) := by
 have hd := C.tab.d2
 have hmo : ∀ i, FnOK Tryz.prog true 43 [.c (.int .i64 n), .c (.int .i64 ((i : Nat) * (t : Int))), .g (nq (r i))] (.c (nql (Q.tq (mn n T (r i) ((i : Int) * t)) d) (mn n T (r i) ((i : Int) * t)))) := fun i => C.mono_ok (hr i) h0 hD (by omega)
 have hz : Q.tq (Q.im n t 0 T r) d = 0 := tq_zero (fun _ => rfl) d
 have had : ∀ i, i < N → FnOK Tryz.prog true 87 [.g [nl (d + 1) (Z.gl φ)], .c (nql (Q.tq (Q.im n t i T r) d) (Q.im n t i T r)), .c (nql (Q.tq (mn n T (r i) ((i : Int) * t)) d) (mn n T (r i) ((i : Int) * t)))] (.t2 (.c (nql (Q.tq (Q.im n t (i + 1) T r) d) (Q.im n t (i + 1) T r))) (.c (.int .i64 0))) := fun i hi => by
  have b1 : ∀ k, Bd D (2 ^ (e + 12)) (mn n T (r i) ((i : Int) * t) k) := fun k => by
   rw [mn_eq]
   have := (hr i).mul (C.bd (i * t % n) k)
   rw [Nat.mul_one] at this
   refine this.mono ?_
   rw [Nat.pow_add]
   exact Nat.mul_le_mul_left _ (by decide)
  have ev1 := ev_n (C.tab.im_fin t i r) hd (im_bd C (by omega) hr) h0 hD (by omega)
  have ev2 := ev_n (C.mn_fin (r i) ((i : Int) * t)) hd b1 h0 hD (by omega)
  refine nAdd_r C.fk ev1 ev2 h0 hD (by omega) ((Q.Rm.self (C.tab.im_fin t (i + 1) r)).congr fun k => ?_)
  rw [mn_eq]
  rfl
 have hF := C.fld
 have n2 := C.tab.n2
 clear hr C
 generalize (fun i => mn n T (r i) ((i : Int) * t)) = M at *
 obtain ⟨S, hS⟩ : ∃ S : Nat → Nat → Rat, S = fun i => Q.im n t i T r := ⟨_, rfl⟩
 have had : ∀ i, i < N → FnOK Tryz.prog true 87 [.g [nl (d + 1) (Z.gl φ)], .c (nql (Q.tq (S i) d) (S i)), .c (nql (Q.tq (mn n T (r i) ((i : Int) * t)) d) (mn n T (r i) ((i : Int) * t)))] (.t2 (.c (nql (Q.tq (S (i + 1)) d) (S (i + 1)))) (.c (.int .i64 0))) := by rw [hS]; exact had
 have hz : Q.tq (S 0) d = 0 := by rw [hS]; exact hz
 have hE : Q.im n t N T r = S N := by rw [hS]
 rw [hE]
 clear hE hS
 generalize Z.gl φ = P at *
 refine fn_okS (E := E1) E1_ok Tryz.func55 rfl (by kernel_rfl) ?_
 refine swp_seq0 E1_ok mixed (by kernel_rfl) ?_
 conv => whnf
 refine swp_seq0 E1_ok mixed (by kernel_rfl) ?_
 conv => whnf
 refine ⟨_, hF, ?_⟩
 conv => whnf
 refine swp_seq0 E1_ok mixed (by kernel_rfl) ?_
 conv => whnf
 refine swp_of E1_ok mixed (by kernel_rfl) ?_
 conv => whnf
 refine loop_ints (fun i : Nat => gst [(0, .c (.int .i64 n)), (1, .c (.int .i64 t)), (7, .c (.p 0 0 1 0 0)), (9, .c (nql (Q.tq (S i) d) (S i))), (17, .c (nql N r)), (18, .c (.int .i64 N)), (19, .c (.int .i64 i))] [⟨34, 1, 1, boxF [nl (d + 1) P]⟩]) (fun i => N - i) (fun i => i ≤ N) 0 rfl (Weak.gen [some 0] rfl ⟨boxU rfl rfl rfl, trivial⟩ ⟨⟨_, rfl, rfl⟩, ⟨_, rfl, rfl⟩, ⟨_, rfl, rfl, rfl⟩, .inr (.inl ⟨hz, rfl⟩), .inl ⟨_, _, rfl, rfl, fun _ _ _ _ => rfl⟩, ⟨_, rfl, rfl⟩, ⟨_, rfl, rfl⟩, trivial⟩) (Nat.zero_le _) fun i hi => ?_
 have hmo := hmo i
 have had := had i
 conv => whnf
 refine bcase (fun (h : decide ((i : Int) < N) = true) => ?_) fun (h : decide ((i : Int) < N) = false) => ?_
 ·have h := of_decide_eq_true h
  have had := had (by omega)
  have hp : (i : Int) * (t : Int) ≤ 16 * 1000 := Int.mul_le_mul (by omega) (by omega) (by omega) (by omega)
  have hp0 : 0 ≤ (i : Int) * (t : Int) := Int.mul_nonneg (by omega) (by omega)
  conv => whnf
  refine ⟨by omega, by omega, ?_⟩
  conv => whnf
  refine ⟨i64 (by omega) (by omega), ?_⟩
  conv => whnf
  refine ⟨_, hmo, ?_⟩
  conv => whnf
  refine ⟨_, had, ?_⟩
  conv => whnf
  refine ⟨i64 (by omega) (by omega), ?_⟩
  conv => whnf
  exact ⟨i + 1, by omega, Weak.gen [some 0] rfl ⟨boxK rfl rfl, trivial⟩ ⟨⟨_, rfl, rfl⟩, ⟨_, rfl, rfl⟩, ⟨_, rfl, rfl, rfl⟩, .inl ⟨_, _, rfl, rfl, fun _ _ _ _ => rfl⟩, .inl ⟨_, _, rfl, rfl, fun _ _ _ _ => rfl⟩, ⟨_, rfl, rfl⟩, ⟨_, rfl, rfl⟩, trivial⟩, by omega⟩
 ·have h := of_decide_eq_false h
  have g : Sub (.c (nql (Q.tq (S i) d) (S i))) (.c (nql (Q.tq (S N) d) (S N))) := by rw [show i = N by omega]; exact Sub.refl _
  conv => whnf
  exact ⟨rfl, g⟩
set_option maxHeartbeats 4000000 in
theorem Cy.normal_ok {n d N D e : Nat} {φ : List Int} {T : List (List Int)} (C : Cy n d φ T) {A r : Nat → Rat} {q : Nat → RawR} (hA : Ev N q A D e) (h0 : 0 < D) (hD : D ≤ 2 ^ 1000000) (he : e ≤ 50000) (hr : Q.Rm d (Q.fr φ) A r) : FnOK Tryz.prog true 45 [.c (.int .i64 n), .c (ql N q)] (.c (nql (Q.tq r d) r)) := by
 have hN := (nNormal_r C.fk hA.val (by have := hA.len; omega) hA.fit hA.bd h0 hD (by omega) hr).2
 have hF := C.fld
 clear hr hA C
 generalize Q.tq r d = L at *
 generalize Z.gl φ = P at *
 refine fn_ok (E := E1) E1_ok Tryz.func45 rfl mixed (by kernel_rfl) (by kernel_rfl) ?_
 conv => whnf
 refine ⟨_, hF, ?_⟩
 conv => whnf
 refine ⟨_, hN, ?_⟩
 conv => whnf
 exact ⟨rfl, Sub.refl _⟩
set_option maxHeartbeats 4000000 in
theorem Cy.zeta_ok {n d : Nat} {φ : List Int} {T : List (List Int)} (C : Cy n d φ T) (k : Int) : FnOK Tryz.prog true 12 [.c (.int .i64 n), .c (.int .i64 k)] (.t2 (.c (nql (Q.tq (mn n T 1 k) d) (mn n T 1 k))) (.c (.int .i64 0))) := by
 have hm := C.mono_ok (k := k) (c := 1) (D := 1) (e := 0) (Bd.int 1) (by decide) (one_le_pow2 1000000) (by decide)
 have ho := qof_one
 have hc := C.chk
 clear C
 generalize mn n T 1 k = r at *
 generalize Q.tq r d = L at *
 refine fn_ok (E := E1) E1_ok Tryz.func12 rfl mixed (by kernel_rfl) (by kernel_rfl) ?_
 conv => whnf
 refine ⟨_, hc, ?_⟩
 conv => whnf
 refine ⟨_, ho, ?_⟩
 conv => whnf
 refine ⟨_, hm, ?_⟩
 conv => whnf
 exact ⟨rfl, Sub.refl _⟩
end Rf
end Go.Proofs.YtmbejakmeijcbaaGreat
/- The program's cyclotomic.Polynomial over what its calls hand back. -/
namespace Go.Proofs.YtmbejakmeijcbaaGreat
open Go.RowKit
namespace Rf
open Dv in
set_option maxHeartbeats 8000000 in
theorem poly_walk {n N : Nat} {dv : Nat → Nat} {mu : Nat → Int} {L K : Nat → Nat} {F G : Nat → Nat → Int} (n1 : 1 ≤ n) (n2 : n ≤ 512) (hN : N ≤ 1000) (hp : ∀ i, i < N → 1 ≤ dv i ∧ dv i ≤ 1000)
  (hD : FnOK Tryz.prog true 63 [.c (.int .i64 n)] (.t2 (.c (ints N dv)) (.c (.int .i64 0))))
  (hM : ∀ i, i < N → FnOK Tryz.prog true 64 [.c (.int .i64 (Int.tdiv n (dv i)))] (.t2 (.c (.int .i64 (mu i))) (.c (.int .i64 0))))
  (h0 : L 0 = 1 ∧ F 0 0 = 1) (ht : ∀ i, i < N → 0 < mu i → FnOK Tryz.prog true 65 [.c (iv (L i) (F i)), .c (.int .i64 (dv i : Nat))] (.c (iv (L (i + 1)) (F (i + 1))))) (hs : ∀ i, i < N → ¬ 0 < mu i → L (i + 1) = L i ∧ F (i + 1) = F i)
  (k0 : K 0 = L N ∧ G 0 = F N) (ho : ∀ i, i < N → mu i < 0 → FnOK Tryz.prog true 66 [.c (iv (K i) (G i)), .c (.int .i64 (dv i : Nat))] (.c (iv (K (i + 1)) (G (i + 1))))) (hs2 : ∀ i, i < N → ¬ mu i < 0 → K (i + 1) = K i ∧ G (i + 1) = G i)
  (hl : 1 ≤ K N ∧ K N ≤ 4096) (hb : ∀ j, j < K N → -9223372036854775808 ≤ G N j ∧ G N j ≤ 9223372036854775807) : FnOK Tryz.prog true 35 [.c (.int .i64 n)] (.t2 (.c (nl (K N) (G N))) (.c (.int .i64 0))) := by
 have of : ∀ j, j < K N → FnOK Tryz.prog true 67 [.c (.int .i64 (G N j))] (.g (nz (G N j))) := fun j hj => of_ok (hb j hj).1 (hb j hj).2
 have q1 : ∀ i, i < N → inR .i64 (Int.tdiv (n : Int) (dv i : Int)) := fun i hi => by
  have h := hp i hi
  rw [Int.tdiv_eq_ediv_of_nonneg (by omega), ← Int.natCast_ediv]
  have := Nat.div_le_self n (dv i)
  generalize n / dv i = m at *
  exact i64 (by omega) (by omega)
 have e1 : ∀ i : Nat, i ≤ N → ¬ (i : Int) < N → i = N := fun i h1 h2 => by omega
 have hfin : ∀ i, i = K N → Sub (.t2 (.c (nl i (G N))) (.c (.int .i64 0))) (.t2 (.c (nl (K N) (G N))) (.c (.int .i64 0))) := fun i e => by rw [e]; exact Sub.refl _
 clear hb
 refine fn_ok (E := E1) E1_ok Tryz.func35 rfl mixed (by kernel_rfl) (by kernel_rfl) ?_
 conv => whnf
 refine bpos (show gw false (decide ((n : Int) < 1)) = true by rw [decide_eq_false (by omega)]; rfl) ?_
 conv => whnf
 refine bneg (show decide ((512 : Int) < n) = false from decide_eq_false (by omega)) ?_
 conv => whnf
 refine ⟨_, hD, ?_⟩
 conv => whnf
 refine loop_ints (fun i : Nat => gst [(0, .c (.int .i64 n)), (4, .c (iv (L i) (F i))), (5, .c (ints N dv)), (30, .c (ints N dv)), (31, .c (.int .i64 N)), (32, .c (.int .i64 i))] []) (fun i => N - i) (fun i => i ≤ N) 0 rfl (Weak.gen [] rfl trivial ⟨⟨_, rfl, rfl⟩, .inr (.inr ⟨0, _, rfl, rfl, rfl, rfl, Nat.zero_le _, ?_⟩), .inl ⟨_, _, rfl, rfl, fun _ _ _ _ => rfl⟩, .inl ⟨_, _, rfl, rfl, fun _ _ _ _ => rfl⟩, ⟨_, rfl, rfl⟩, ⟨_, rfl, rfl⟩, trivial⟩) (Nat.zero_le _) fun i hi => ?_
 ·refine ⟨rfl, h0.1.symm, fun a b ha hb => ⟨?_, rfl⟩⟩
  have ha : a = 0 := by have := h0.1; omega
  have hb : b = 0 := by omega
  rw [ha, hb]
  exact congrArg (Cell.int .i64) h0.2.symm
 have hp' := hp
 have e1' := e1
 have hM' := hM
 have q1' := q1
 have hp := hp i
 have hM := hM i
 have ht := ht i
 have hs := hs i
 have q1 := q1 i
 have e1 := e1 i hi
 conv => whnf
 refine bcase (fun (h : decide ((i : Int) < N) = true) => ?_) fun (h : decide ((i : Int) < N) = false) => ?_
 ·have h := of_decide_eq_true h
  have hp := hp (by omega)
  have hM := hM (by omega)
  have ht := ht (by omega)
  have hs := hs (by omega)
  have q1 := q1 (by omega)
  conv => whnf
  refine ⟨by omega, by omega, ?_⟩
  conv => whnf
  refine ⟨(show ((dv i : Nat) : Int) ≠ 0 by omega), q1, ?_⟩
  conv => whnf
  refine ⟨_, hM, ?_⟩
  conv => whnf
  refine bcase (fun (h1 : decide (0 < mu i) = true) => ?_) fun (h1 : decide (0 < mu i) = false) => ?_
  ·have ht := ht (of_decide_eq_true h1)
   conv => whnf
   refine ⟨_, ht, ?_⟩
   conv => whnf
   refine ⟨i64 (by omega) (by omega), ?_⟩
   conv => whnf
   exact ⟨i + 1, by omega, Weak.gen [] rfl trivial ⟨⟨_, rfl, rfl⟩, .inl ⟨_, _, rfl, rfl, fun _ _ _ _ => rfl⟩, .inl ⟨_, _, rfl, rfl, fun _ _ _ _ => rfl⟩, .inl ⟨_, _, rfl, rfl, fun _ _ _ _ => rfl⟩, ⟨_, rfl, rfl⟩, ⟨_, rfl, rfl⟩, trivial⟩, by omega⟩
  ·have hs := hs (of_decide_eq_false h1)
   conv => whnf
   refine ⟨i64 (by omega) (by omega), ?_⟩
   conv => whnf
   exact ⟨i + 1, by omega, Weak.gen [] rfl trivial ⟨⟨_, rfl, rfl⟩, .inl ⟨_, _, rfl, hs.1.symm, fun _ _ _ _ => by rw [hs.2]⟩, .inl ⟨_, _, rfl, rfl, fun _ _ _ _ => rfl⟩, .inl ⟨_, _, rfl, rfl, fun _ _ _ _ => rfl⟩, ⟨_, rfl, rfl⟩, ⟨_, rfl, rfl⟩, trivial⟩, by omega⟩
 have h := e1 (of_decide_eq_false h)
 have eN : L i = K 0 := by rw [h, k0.1]
 have eF : F i = G 0 := by rw [h, k0.2]
 clear ht hs hM q1 hp hi
 conv => whnf
 refine loop_ints (fun i : Nat => gst [(0, .c (.int .i64 n)), (4, .c (iv (K i) (G i))), (49, .c (ints N dv)), (50, .c (.int .i64 N)), (51, .c (.int .i64 i))] []) (fun i => N - i) (fun i => i ≤ N) 0 rfl (Weak.gen [] rfl trivial ⟨⟨_, rfl, rfl⟩, .inl ⟨_, _, rfl, eN, fun _ _ _ _ => by rw [eF]⟩, .inl ⟨_, _, rfl, rfl, fun _ _ _ _ => rfl⟩, ⟨_, rfl, rfl⟩, ⟨_, rfl, rfl⟩, trivial⟩) (Nat.zero_le _) fun i hi => ?_
 have hp := hp' i
 have hM := hM' i
 have ho := ho i
 have hs := hs2 i
 have q1 := q1' i
 have e1 := e1' i hi
 conv => whnf
 refine bcase (fun (h : decide ((i : Int) < N) = true) => ?_) fun (h : decide ((i : Int) < N) = false) => ?_
 ·have h := of_decide_eq_true h
  have hp := hp (by omega)
  have hM := hM (by omega)
  have ho := ho (by omega)
  have hs := hs (by omega)
  have q1 := q1 (by omega)
  conv => whnf
  refine ⟨by omega, by omega, ?_⟩
  conv => whnf
  refine ⟨(show ((dv i : Nat) : Int) ≠ 0 by omega), q1, ?_⟩
  conv => whnf
  refine ⟨_, hM, ?_⟩
  conv => whnf
  refine bcase (fun (h1 : decide (mu i < 0) = true) => ?_) fun (h1 : decide (mu i < 0) = false) => ?_
  ·have ho := ho (of_decide_eq_true h1)
   conv => whnf
   refine ⟨_, ho, ?_⟩
   conv => whnf
   refine ⟨i64 (by omega) (by omega), ?_⟩
   conv => whnf
   exact ⟨i + 1, by omega, Weak.gen [] rfl trivial ⟨⟨_, rfl, rfl⟩, .inl ⟨_, _, rfl, rfl, fun _ _ _ _ => rfl⟩, .inl ⟨_, _, rfl, rfl, fun _ _ _ _ => rfl⟩, ⟨_, rfl, rfl⟩, ⟨_, rfl, rfl⟩, trivial⟩, by omega⟩
  ·have hs := hs (of_decide_eq_false h1)
   conv => whnf
   refine ⟨i64 (by omega) (by omega), ?_⟩
   conv => whnf
   exact ⟨i + 1, by omega, Weak.gen [] rfl trivial ⟨⟨_, rfl, rfl⟩, .inl ⟨_, _, rfl, hs.1.symm, fun _ _ _ _ => by rw [hs.2]⟩, .inl ⟨_, _, rfl, rfl, fun _ _ _ _ => rfl⟩, ⟨_, rfl, rfl⟩, ⟨_, rfl, rfl⟩, trivial⟩, by omega⟩
 have h := e1 (of_decide_eq_false h)
 have eN : K i = K N := by rw [h]
 have eF : G i = G N := by rw [h]
 clear ho hs hM q1 hp hi
 conv => whnf
 refine loop_ints (fun j : Nat => gst [(15, .c (.gs 0 0)), (68, .c (iv (K N) (G N))), (69, .c (.int .i64 (K N : Nat))), (70, .c (.int .i64 j))] [gz j (G N)]) (fun j => K N - j) (fun j => j ≤ K N) 0 rfl (Weak.gen [none] rfl ⟨rfl, trivial⟩ ⟨rfl, .inl ⟨_, _, rfl, eN, fun _ _ _ _ => by rw [eF]⟩, ⟨_, rfl, by rw [eN]⟩, ⟨_, rfl, rfl⟩, trivial⟩) (Nat.zero_le _) fun j hj => ?_
 have of := of j
 have hfin := hfin j
 conv => whnf
 refine bcase (fun (h : decide ((j : Int) < (K N : Nat)) = true) => ?_) fun (h : decide ((j : Int) < (K N : Nat)) = false) => ?_
 ·have h := of_decide_eq_true h
  have of := of (by omega)
  conv => whnf
  refine ⟨by omega, by omega, ?_⟩
  conv => whnf
  refine ⟨_, of, ?_⟩
  conv => whnf
  refine ⟨by show j + 1 ≤ 16777216; omega, fun x y hx hy => ?_, ?_⟩
  ·match x, y, hx, hy with
   | 0, 0, _, _ => exact ⟨rfl, fun _ => rfl⟩
   | 0, 1, _, _ => exact ⟨rfl, fun _ => rfl⟩
  conv => whnf
  refine ⟨i64 (by omega) (by omega), ?_⟩
  conv => whnf
  refine ⟨j + 1, by omega, Weak.gen [some 0] rfl ⟨⟨_, rfl, rfl, rfl, rfl, rfl, fun a b ha hb => ?_⟩, trivial⟩ ⟨⟨_, rfl, rfl, rfl⟩, .inl ⟨_, _, rfl, rfl, fun _ _ _ _ => rfl⟩, ⟨_, rfl, rfl⟩, ⟨_, rfl, rfl⟩, trivial⟩, by omega⟩
  exact regE (appG (sz := 2) (g := fun i => nz (G N i)) (g' := fun i => nz (G N i)) (l := nz (G N j)) (app_same (fun i => nz (G N i)) j a) (Nat.le_refl (j + 1)) ha) (zl_clos (c := fun i => ofZ (G N i)) a b)
 ·have h := of_decide_eq_false h
  have hfin := hfin (by omega)
  conv => whnf
  refine ⟨fun x y _ _ => zl_clos (c := fun i => ofZ (G N i)) x y, ?_⟩
  conv => whnf
  exact ⟨rfl, hfin⟩
end Rf
end Go.Proofs.YtmbejakmeijcbaaGreat
/- The program's cyclotomic.Polynomial: its length, by a chain of lengths and bounds. -/
namespace Go.Proofs.YtmbejakmeijcbaaGreat
open Go.RowKit
namespace Dv
def qo (d t : Nat) (a : Nat → Int) : Nat → Nat → Int
 | 0, _ => 0
 | f + 1, j => a (j + d) + if j + d < t then qo d t a f (j + d) else 0
theorem qo_fuel {d t : Nat} {a : Nat → Int} (h1 : 1 ≤ d) : ∀ {f g j : Nat}, t ≤ j + f → t ≤ j + g → j < t → qo d t a f j = qo d t a g j
 | 0, _, _, h, _, hj => by omega
 | _ + 1, 0, _, _, h, hj => by omega
 | f + 1, g + 1, j, hf, hg, hj => by
  show a (j + d) + (if j + d < t then _ else 0) = a (j + d) + if j + d < t then _ else 0
  split
  ·rw [qo_fuel h1 (f := f) (g := g) (by omega) (by omega) (by assumption)]
  ·rfl
theorem qo_eq {d t : Nat} {a : Nat → Int} (h1 : 1 ≤ d) {j : Nat} (hj : j < t) : qo d t a t j = a (j + d) + if j + d < t then qo d t a t (j + d) else 0 := by
 rw [qo_fuel h1 (f := t) (g := t + 1) (by omega) (by omega) hj]
 rfl
theorem qo_bd {d t : Nat} {a : Nat → Int} {B : Nat} (ha : ∀ i, (a i).natAbs ≤ B) : ∀ (m : Nat) {f j : Nat}, t ≤ j + (m + 1) * d → (qo d t a f j).natAbs ≤ (m + 1) * B
 | _, 0, _, _ => Nat.zero_le _
 | m, f + 1, j, h => by
  have h0 := ha (j + d)
  show (a (j + d) + if j + d < t then _ else 0).natAbs ≤ _
  split
  ·rename_i c
   match m, h with
   | 0, h => omega
   | m + 1, h =>
    have e : (m + 1 + 1) * d = (m + 1) * d + d := Nat.succ_mul _ _
    have ih := qo_bd (d := d) (t := t) ha m (f := f) (j := j + d) (by omega)
    have e2 : (m + 1 + 1) * B = (m + 1) * B + B := Nat.succ_mul _ _
    omega
  ·have e2 : (m + 1) * B = m * B + B := Nat.succ_mul _ _
   omega
def fL (dv : Nat → Nat) (mu : Nat → Int) : Nat → Nat × (Nat → Int)
 | 0 => (1, fun j => if j = 0 then 1 else 0)
 | i + 1 => if 0 < mu i then ((fL dv mu i).1 + dv i, tp (dv i) (fL dv mu i).2 (fL dv mu i).1) else fL dv mu i
def gL (dv : Nat → Nat) (mu : Nat → Int) (s : Nat × (Nat → Int)) : Nat → Nat × (Nat → Int)
 | 0 => s
 | i + 1 => if mu i < 0 then ((gL dv mu s i).1 - dv i, qo (dv i) ((gL dv mu s i).1 - dv i) (gL dv mu s i).2 ((gL dv mu s i).1 - dv i)) else gL dv mu s i
theorem tp_bd {d n : Nat} {a : Nat → Int} {B : Nat} (ha : ∀ i, (a i).natAbs ≤ B) (j : Nat) : (tp d a n j).natAbs ≤ B + B := by
 unfold tp
 have h1 := ha (j - d)
 have h2 := ha j
 split <;> split <;> omega
def nF (dv : Nat → Nat) (mu : Nat → Int) : Nat → Nat × Nat
 | 0 => (1, 1)
 | i + 1 => match nF dv mu i with
  | (K, B) => if 0 < mu i then (K + dv i, B + B) else (K, B)
def nG (dv : Nat → Nat) (mu : Nat → Int) (s : Nat × Nat) : Nat → Nat × Nat
 | 0 => s
 | i + 1 => match nG dv mu s i with
  | (K, B) => if mu i < 0 then (K - dv i, ((K - dv i) / dv i + 1) * B) else (K, B)
theorem nF_ok {dv : Nat → Nat} {mu : Nat → Int} : ∀ i, (fL dv mu i).1 = (nF dv mu i).1 ∧ ∀ j, ((fL dv mu i).2 j).natAbs ≤ (nF dv mu i).2
 | 0 => ⟨rfl, fun j => by
  show (if j = 0 then (1 : Int) else 0).natAbs ≤ 1
  split <;> decide⟩
 | i + 1 => by
  have ih := nF_ok (dv := dv) (mu := mu) i
  unfold fL nF
  rcases h : nF dv mu i with ⟨K, B⟩
  rw [h] at ih
  show (if 0 < mu i then _ else _ : Nat × (Nat → Int)).1 = (if 0 < mu i then _ else _ : Nat × Nat).1 ∧ _
  split
  ·rename_i c
   refine ⟨congrArg (· + dv i) ih.1, fun j => ?_⟩
   exact tp_bd ih.2 j
  ·exact ih
theorem nG_ok {dv : Nat → Nat} {mu : Nat → Int} {s : Nat × Nat} {S : Nat × (Nat → Int)} (h1 : S.1 = s.1) (h2 : ∀ j, (S.2 j).natAbs ≤ s.2) : ∀ i, (∀ k, k < i → 1 ≤ dv k) → (gL dv mu S i).1 = (nG dv mu s i).1 ∧ ∀ j, ((gL dv mu S i).2 j).natAbs ≤ (nG dv mu s i).2
 | 0, _ => ⟨h1, h2⟩
 | i + 1, hd => by
  have ih := nG_ok (dv := dv) (mu := mu) h1 h2 i fun k hk => hd k (by omega)
  have d1 := hd i (by omega)
  unfold gL nG
  rcases h : nG dv mu s i with ⟨K, B⟩
  rw [h] at ih
  show (if mu i < 0 then _ else _ : Nat × (Nat → Int)).1 = (if mu i < 0 then _ else _ : Nat × Nat).1 ∧ _
  split
  ·rename_i c
   refine ⟨congrArg (· - dv i) ih.1, fun j => ?_⟩
   have e : (gL dv mu S i).1 - dv i = K - dv i := by rw [ih.1]
   show (qo (dv i) ((gL dv mu S i).1 - dv i) (gL dv mu S i).2 ((gL dv mu S i).1 - dv i) j).natAbs ≤ ((K - dv i) / dv i + 1) * B
   rw [e]
   refine qo_bd ih.2 ((K - dv i) / dv i) ?_
   have := Nat.lt_div_mul_add (a := K - dv i) (b := dv i) d1
   rw [Nat.succ_mul]
   omega
  ·exact ih
def okB (s : Nat × Nat) : Bool := Nat.ble s.1 4096 && Nat.ble s.2 2305843009213693952
theorem okB_ok {s : Nat × Nat} (h : okB s = true) : s.1 ≤ 4096 ∧ s.2 ≤ 2305843009213693952 := by
 unfold okB at h
 rw [Bool.and_eq_true] at h
 exact ⟨Nat.le_of_ble_eq_true h.1, Nat.le_of_ble_eq_true h.2⟩
def chk (N : Nat) (dv : Nat → Nat) (mu : Nat → Int) : Bool :=
 Nat.ble N 1000 && ((List.range N).all fun i => Nat.ble 1 (dv i) && Nat.ble (dv i) 1000 && okB (nF dv mu i) && okB (nG dv mu (nF dv mu N) (i + 1)) && okB (nG dv mu (nF dv mu N) i) && (decide (0 ≤ mu i) || Nat.ble (dv i) (nG dv mu (nF dv mu N) i).1)) && Nat.ble 1 (nG dv mu (nF dv mu N) N).1 && okB (nG dv mu (nF dv mu N) N)
theorem rng_of {x : Int} {B : Nat} (h : x.natAbs ≤ B) (hB : B ≤ 2305843009213693952) : -2305843009213693952 ≤ x ∧ x ≤ 2305843009213693952 := by omega
theorem poly_len {n N : Nat} {dv : Nat → Nat} {mu : Nat → Int} (n1 : 1 ≤ n) (n2 : n ≤ 512) (hc : chk N dv mu = true) (hD : FnOK Tryz.prog true 63 [.c (.int .i64 n)] (.t2 (.c (Rf.ints N dv)) (.c (.int .i64 0))))
  (hM : ∀ i, i < N → FnOK Tryz.prog true 64 [.c (.int .i64 (Int.tdiv n (dv i)))] (.t2 (.c (.int .i64 (mu i))) (.c (.int .i64 0)))) : ∃ g, FnOK Tryz.prog true 35 [.c (.int .i64 n)] (.t2 (.c (nl (nG dv mu (nF dv mu N) N).1 g)) (.c (.int .i64 0))) := by
 unfold chk at hc
 simp only [Bool.and_eq_true] at hc
 obtain ⟨⟨⟨c1, c2⟩, c3⟩, c4⟩ := hc
 have c1 := Nat.le_of_ble_eq_true c1
 have c3 := Nat.le_of_ble_eq_true c3
 have c4 := okB_ok c4
 have c2 := fun i (hi : i < N) => List.all_eq_true.1 c2 i (List.mem_range.2 hi)
 simp only [Bool.and_eq_true, Bool.or_eq_true] at c2
 have hp : ∀ i, i < N → 1 ≤ dv i ∧ dv i ≤ 1000 := fun i hi => ⟨Nat.le_of_ble_eq_true (c2 i hi).1.1.1.1.1, Nat.le_of_ble_eq_true (c2 i hi).1.1.1.1.2⟩
 have b1 : ∀ i, i < N → _ := fun i hi => okB_ok (c2 i hi).1.1.1.2
 have b2 : ∀ i, i < N → _ := fun i hi => okB_ok (c2 i hi).1.1.2
 have b3 : ∀ i, i < N → _ := fun i hi => okB_ok (c2 i hi).1.2
 have b4 : ∀ i, i < N → mu i < 0 → dv i ≤ (nG dv mu (nF dv mu N) i).1 := fun i hi hm => by
  rcases (c2 i hi).2 with h | h
  ·exact absurd (of_decide_eq_true h) (by omega)
  ·exact Nat.le_of_ble_eq_true h
 have f := nF_ok (dv := dv) (mu := mu)
 have g := fun i (hi : i ≤ N) => nG_ok (dv := dv) (mu := mu) (f N).1 (f N).2 i fun k hk => (hp k (by omega)).1
 refine ⟨(gL dv mu (fL dv mu N) N).2, ?_⟩
 rw [← (g N (Nat.le_refl N)).1]
 refine Rf.poly_walk (L := fun i => (fL dv mu i).1) (F := fun i => (fL dv mu i).2) (K := fun i => (gL dv mu (fL dv mu N) i).1) (G := fun i => (gL dv mu (fL dv mu N) i).2) n1 n2 c1 hp hD hM ⟨rfl, rfl⟩ (fun i hi hm => ?_) (fun i hi hm => ?_) ⟨rfl, rfl⟩ (fun i hi hm => ?_) (fun i hi hm => ?_) (by rw [(g N (Nat.le_refl N)).1]; exact ⟨c3, c4.1⟩) fun j _ => ?_
 ·have h := (times_w (n := (fL dv mu i).1) (d := dv i) (a := (fL dv mu i).2) (by rw [(f i).1]; exact (b1 i hi).1) (hp i hi).1 (by have := (hp i hi).2; omega) fun j => rng_of ((f i).2 j) (b1 i hi).2).weak (r := true)
  rwa [show fL dv mu (i + 1) = ((fL dv mu i).1 + dv i, tp (dv i) (fL dv mu i).2 (fL dv mu i).1) from if_pos hm]
 ·rw [show fL dv mu (i + 1) = fL dv mu i from if_neg hm]
  exact ⟨rfl, rfl⟩
 ·have e := (g i (by omega)).1
  have hk := b4 i hi hm
  have hb := b3 i hi
  have hb2 := b2 i hi
  have g2 := (g (i + 1) (by omega)).2
  have e2 : gL dv mu (fL dv mu N) (i + 1) = ((gL dv mu (fL dv mu N) i).1 - dv i, qo (dv i) ((gL dv mu (fL dv mu N) i).1 - dv i) (gL dv mu (fL dv mu N) i).2 ((gL dv mu (fL dv mu N) i).1 - dv i)) := if_pos hm
  rw [e2] at g2
  have h := (over_w (t := (gL dv mu (fL dv mu N) i).1 - dv i) (d := dv i) (a := (gL dv mu (fL dv mu N) i).2) (q := qo (dv i) ((gL dv mu (fL dv mu N) i).1 - dv i) (gL dv mu (fL dv mu N) i).2 ((gL dv mu (fL dv mu N) i).1 - dv i)) (by omega) (hp i hi).1 (by have := (hp i hi).2; omega) (fun j hj => qo_eq (hp i hi).1 hj) (fun j => rng_of ((g i (by omega)).2 j) hb.2) fun j => rng_of (g2 j) hb2.2).weak (r := true)
  rw [Nat.sub_add_cancel (by omega)] at h
  rwa [e2]
 ·rw [show gL dv mu (fL dv mu N) (i + 1) = gL dv mu (fL dv mu N) i from if_neg hm]
  exact ⟨rfl, rfl⟩
 ·have := rng_of ((g N (Nat.le_refl N)).2 j) c4.2
  omega
end Dv
end Go.Proofs.YtmbejakmeijcbaaGreat
/- Orders up to 512: tables of the totient and of the Moebius function; what runs have to show. -/
namespace Go.Proofs.YtmbejakmeijcbaaGreat
open Go.RowKit
namespace Dv
def phT : List Nat := [0, 1, 1, 2, 2, 4, 2, 6, 4, 6, 4, 10, 4, 12, 6, 8, 8, 16, 6, 18, 8, 12, 10, 22, 8, 20, 12, 18, 12, 28, 8, 30, 16, 20, 16, 24, 12, 36, 18, 24, 16, 40, 12, 42, 20, 24, 22, 46, 16, 42, 20, 32, 24, 52, 18, 40, 24, 36, 28, 58, 16, 60, 30, 36, 32, 48, 20, 66, 32, 44, 24, 70, 24, 72, 36, 40, 36, 60, 24, 78, 32, 54, 40, 82, 24, 64, 42, 56, 40, 88, 24, 72, 44, 60, 46, 72, 32, 96, 42, 60, 40, 100, 32, 102, 48, 48, 52, 106, 36, 108, 40, 72, 48, 112, 36, 88, 56, 72, 58, 96, 32, 110, 60, 80, 60, 100, 36, 126, 64, 84, 48, 130, 40, 108, 66, 72, 64, 136, 44, 138, 48, 92, 70, 120, 48, 112, 72, 84, 72, 148, 40, 150, 72, 96, 60, 120, 48, 156, 78, 104, 64, 132, 54, 162, 80, 80, 82, 166, 48, 156, 64, 108, 84, 172, 56, 120, 80, 116, 88, 178, 48, 180, 72, 120, 88, 144, 60, 160, 92, 108, 72, 190, 64, 192, 96, 96, 84, 196, 60, 198, 80, 132, 100, 168, 64, 160, 102, 132, 96, 180, 48, 210, 104, 140, 106, 168, 72, 180, 108, 144, 80, 192, 72, 222, 96, 120, 112, 226, 72, 228, 88, 120, 112, 232, 72, 184, 116, 156, 96, 238, 64, 240, 110, 162, 120, 168, 80, 216, 120, 164, 100, 250, 72, 220, 126, 128, 128, 256, 84, 216, 96, 168, 130, 262, 80, 208, 108, 176, 132, 268, 72, 270, 128, 144, 136, 200, 88, 276, 138, 180, 96, 280, 92, 282, 140, 144, 120, 240, 96, 272, 112, 192, 144, 292, 84, 232, 144, 180, 148, 264, 80, 252, 150, 200, 144, 240, 96, 306, 120, 204, 120, 310, 96, 312, 156, 144, 156, 316, 104, 280, 128, 212, 132, 288, 108, 240, 162, 216, 160, 276, 80, 330, 164, 216, 166, 264, 96, 336, 156, 224, 128, 300, 108, 294, 168, 176, 172, 346, 112, 348, 120, 216, 160, 352, 116, 280, 176, 192, 178, 358, 96, 342, 180, 220, 144, 288, 120, 366, 176, 240, 144, 312, 120, 372, 160, 200, 184, 336, 108, 378, 144, 252, 190, 382, 128, 240, 192, 252, 192, 388, 96, 352, 168, 260, 196, 312, 120, 396, 198, 216, 160, 400, 132, 360, 200, 216, 168, 360, 128, 408, 160, 272, 204, 348, 132, 328, 192, 276, 180, 418, 96, 420, 210, 276, 208, 320, 140, 360, 212, 240, 168, 430, 144, 432, 180, 224, 216, 396, 144, 438, 160, 252, 192, 442, 144, 352, 222, 296, 192, 448, 120, 400, 224, 300, 226, 288, 144, 456, 228, 288, 176, 460, 120, 462, 224, 240, 232, 466, 144, 396, 184, 312, 232, 420, 156, 360, 192, 312, 238, 478, 128, 432, 240, 264, 220, 384, 162, 486, 240, 324, 168, 490, 160, 448, 216, 240, 240, 420, 164, 498, 200, 332, 250, 502, 144, 400, 220, 312, 252, 508, 128, 432, 256]
def mbT : List Int := [0, 1, -1, -1, 0, -1, 1, -1, 0, 0, 1, -1, 0, -1, 1, 1, 0, -1, 0, -1, 0, 1, 1, -1, 0, 0, 1, 0, 0, -1, -1, -1, 0, 1, 1, 1, 0, -1, 1, 1, 0, -1, -1, -1, 0, 0, 1, -1, 0, 0, 0, 1, 0, -1, 0, 1, 0, 1, 1, -1, 0, -1, 1, 0, 0, 1, -1, -1, 0, 1, -1, -1, 0, -1, 1, 0, 0, 1, -1, -1, 0, 0, 1, -1, 0, 1, 1, 1, 0, -1, 0, 1, 0, 1, 1, 1, 0, -1, 0, 0, 0, -1, -1, -1, 0, -1, 1, -1, 0, -1, -1, 1, 0, -1, -1, 1, 0, 0, 1, 1, 0, 0, 1, 1, 0, 0, 0, -1, 0, 1, -1, -1, 0, 1, 1, 0, 0, -1, -1, -1, 0, 1, 1, 1, 0, 1, 1, 0, 0, -1, 0, -1, 0, 0, -1, 1, 0, -1, 1, 1, 0, 1, 0, -1, 0, -1, 1, -1, 0, 0, -1, 0, 0, -1, -1, 0, 0, 1, 1, -1, 0, -1, -1, 1, 0, 1, -1, 1, 0, 0, -1, -1, 0, -1, 1, -1, 0, -1, 0, -1, 0, 1, 1, 1, 0, 1, 1, 0, 0, 1, 1, -1, 0, 1, 1, 1, 0, 1, 1, 1, 0, 1, -1, -1, 0, 0, 1, -1, 0, -1, -1, -1, 0, -1, 0, 1, 0, 1, -1, -1, 0, -1, 0, 0, 0, 0, -1, 1, 0, 1, 0, -1, 0, 1, 1, -1, 0, -1, -1, 1, 0, 0, 1, -1, 0, 1, -1, 1, 0, -1, 0, -1, 0, -1, 1, 0, 0, -1, 1, 0, 0, -1, -1, -1, 0, -1, -1, 1, 0, 0, -1, 1, 0, -1, 0, 1, 0, 0, 1, 1, 0, 1, 1, 1, 0, 1, 0, -1, 0, 1, -1, -1, 0, -1, 1, 0, 0, -1, -1, 1, 0, 1, -1, 1, 0, 0, 1, 1, 0, 1, 1, -1, 0, 0, 1, 1, 0, -1, 0, 1, 0, 1, 0, 0, 0, -1, 1, -1, 0, -1, 0, 0, 0, -1, -1, 1, 0, -1, 1, -1, 0, 0, 1, 0, 0, 1, -1, -1, 0, 0, -1, 1, 0, -1, -1, 0, 0, 1, 0, -1, 0, 1, 1, -1, 0, -1, 1, 0, 0, -1, 1, 1, 0, 1, 1, 1, 0, -1, 1, -1, 0, -1, -1, 1, 0, 0, -1, 1, 0, -1, -1, 1, 0, 1, 0, 1, 0, 1, -1, -1, 0, -1, 1, 0, 0, 0, -1, 1, 0, -1, -1, -1, 0, -1, -1, -1, 0, 1, -1, -1, 0, 0, -1, -1, 0, 1, 1, 1, 0, -1, 0, 1, 0, 1, 1, -1, 0, -1, 1, 0, 0, -1, 1, -1, 0, -1, 1, -1, 0, 1, -1, 1, 0, 1, -1, 0, 0, 0, 1, -1, 0, 1, 1, -1, 0, 1, 0, -1, 0, 1, 0, -1, 0, 1, -1, 0, 0, 1, -1, -1, 0, 1, 1, -1, 0, 1, -1, 0, 0, -1, 1, 1, 0]
def dvs (n : Nat) : List Nat := ((List.range n).map Nat.succ).filter fun d => n % d == 0
noncomputable def runP (f : FuncId) (n : Nat) : Option V := pureX orcP (runY ER orcP dvX okF dvI 1000 40) f [.c (.int .i64 n)]
noncomputable def divB (n : Nat) : Bool := (runP 63 n).map (fun X => sameV X (.t2 (.c (Rf.ints (dvs n).length fun i => (dvs n).getD i 0)) (.c (.int .i64 0)))) == some true
noncomputable def mobB (n : Nat) : Bool := (runP 64 n).map (fun X => sameV X (.t2 (.c (.int .i64 (mbT.getD n 0))) (.c (.int .i64 0)))) == some true
noncomputable def phiB (n : Nat) : Bool := (runP 75 n).map (fun X => sameV X (.t2 (.c (.int .i64 (phT.getD n 0 : Nat))) (.c (.int .i64 0)))) == some true
noncomputable def rphB (n : Nat) : Bool := (runP 36 n).map (fun X => sameV X (.c (.int .i64 (phT.getD n 0 : Nat)))) == some true
def chB (n : Nat) : Bool := let l := dvs n; chk l.length (fun i => l.getD i 0) (fun i => mbT.getD (n / l.getD i 0) 0) && (nG (fun i => l.getD i 0) (fun i => mbT.getD (n / l.getD i 0) 0) (nF (fun i => l.getD i 0) (fun i => mbT.getD (n / l.getD i 0) 0) l.length) l.length).1 == phT.getD n 0 + 1
end Dv
end Go.Proofs.YtmbejakmeijcbaaGreat
