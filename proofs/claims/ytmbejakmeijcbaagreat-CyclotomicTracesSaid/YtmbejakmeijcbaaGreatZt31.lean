/- Ramanujan's sums in the document; the law CyclotomicTraces over abstract arguments. -/
import Derived.Test.YtmbejakmeijcbaaGreatZt14
namespace Go.Proofs.YtmbejakmeijcbaaGreat
open Go.RowKit
namespace Rf
theorem tdiv_nat15 {n m : Nat} (_ : 1 ≤ n) : Int.tdiv (m : Int) (n : Int) = ((m / n : Nat) : Int) := by
 rw [Int.tdiv_eq_ediv_of_nonneg (by omega)]
 exact (Int.natCast_ediv m n).symm
def rsm (k : Nat) (dv : Nat → Nat) (mu : Nat → Int) : Nat → Int
 | 0 => 0
 | i + 1 => if k % dv i = 0 then rsm k dv mu i + (dv i : Int) * mu i else rsm k dv mu i
theorem rsm_bd {k : Nat} {dv : Nat → Nat} {mu : Nat → Int} {N : Nat} (h : ∀ i, i < N → (dv i : Int) * mu i ≤ 1000 ∧ -1000 ≤ (dv i : Int) * mu i) : ∀ i, i ≤ N → rsm k dv mu i ≤ 1000 * i ∧ -1000 * (i : Int) ≤ rsm k dv mu i
 | 0, _ => ⟨by show (0 : Int) ≤ _; omega, by show _ ≤ (0 : Int); omega⟩
 | i + 1, hi => by
  have ih := rsm_bd (k := k) h i (by omega)
  have := h i (by omega)
  unfold rsm
  split <;> omega
set_option maxHeartbeats 8000000 in
theorem ram_ok {n k N : Nat} {dv : Nat → Nat} {mu : Nat → Int} (hN : N ≤ 1000) (hn : n ≤ 1000) (hk : k ≤ 1000) (hD : FnOK Tryz.prog false 61 [.c (.int .i64 n)] (.c (ints N dv))) (hp : ∀ i, i < N → 1 ≤ dv i ∧ dv i ≤ 1000) (hm : ∀ i, i < N → (dv i : Int) * mu i ≤ 1000 ∧ -1000 ≤ (dv i : Int) * mu i) (hM : ∀ i, i < N → FnOK Tryz.prog false 62 [.c (.int .i64 (n / dv i : Nat))] (.c (.int .i64 (mu i)))) : FnOK Tryz.prog false 34 [.c (.int .i64 n), .c (.int .i64 k)] (.c (.int .i64 (rsm k dv mu N))) := by
 have hb := fun i (h : i ≤ N) => rsm_bd (k := k) hm i h
 have hM : ∀ i, i < N → FnOK Tryz.prog false 62 [.c (.int .i64 (Int.tdiv (n : Int) (dv i : Int)))] (.c (.int .i64 (mu i))) := fun i hi => by
  rw [tdiv_nat15 (hp i hi).1]
  exact hM i hi
 have hq : ∀ i, i < N → 0 ≤ Int.tdiv (n : Int) (dv i : Int) ∧ Int.tdiv (n : Int) (dv i : Int) ≤ 1000 := fun i hi => by
  rw [tdiv_nat15 (hp i hi).1]
  exact ⟨Int.natCast_nonneg _, (Int.ofNat_le.2 (Nat.le_trans (Nat.div_le_self n (dv i)) hn) : ((n / dv i : Nat) : Int) ≤ ((1000 : Nat) : Int))⟩
 have e1 : ∀ i, Int.tmod (k : Int) (dv i : Int) = ((k % dv i : Nat) : Int) := fun i => by
  rw [Int.tmod_eq_emod_of_nonneg (by omega)]
  exact (Int.natCast_emod k (dv i)).symm
 have s1 : ∀ i, Int.tmod (k : Int) (dv i : Int) = 0 → rsm k dv mu (i + 1) = rsm k dv mu i + (dv i : Int) * mu i := fun i h => by
  rw [e1] at h
  exact if_pos (by omega)
 have s2 : ∀ i, ¬ Int.tmod (k : Int) (dv i : Int) = 0 → rsm k dv mu (i + 1) = rsm k dv mu i := fun i h => by
  rw [e1] at h
  exact if_neg (by omega)
 have z0 : rsm k dv mu 0 = 0 := rfl
 clear e1
 generalize rsm k dv mu = S at *
 refine fn_ok (E := E0) E0_ok Tryz.func34 rfl mixed (by kernel_rfl) (by kernel_rfl) ?_
 conv => whnf
 refine ⟨_, hD, ?_⟩
 conv => whnf
 refine loop_ints (fun i : Nat => gst [(0, .c (.int .i64 n)), (1, .c (.int .i64 k)), (5, .c (.int .i64 (S i))), (6, .c (ints N dv)), (7, .c (.int .i64 i))] []) (fun i => N - i) (fun i => i ≤ N) 0 rfl (Weak.gen [] rfl trivial ⟨⟨_, rfl, rfl⟩, ⟨_, rfl, rfl⟩, ⟨_, rfl, z0.symm⟩, .inl ⟨_, _, rfl, rfl, fun _ _ _ _ => rfl⟩, ⟨_, rfl, rfl⟩, trivial⟩) (Nat.zero_le _) fun i hi => ?_
 have hp := hp i
 have hm := hm i
 have hM := hM i
 have hq := hq i
 have s1 := s1 i
 have s2 := s2 i
 have hb := hb i hi
 conv => whnf
 refine bcase (fun (h : decide ((i : Int) < N) = true) => ?_) fun (h : decide ((i : Int) < N) = false) => ?_
 ·have h := of_decide_eq_true h
  have hp := hp (by omega)
  have hm := hm (by omega)
  have hM := hM (by omega)
  have hq := hq (by omega)
  conv => whnf
  refine ⟨by omega, by omega, ?_⟩
  conv => whnf
  refine ⟨(show ((dv i : Nat) : Int) ≠ 0 by omega), ?_⟩
  conv => whnf
  refine bcase (fun (h1 : decide (Int.tmod (k : Int) (dv i : Int) = 0) = true) => ?_) fun (h1 : decide (Int.tmod (k : Int) (dv i : Int) = 0) = false) => ?_
  ·have s1 := s1 (of_decide_eq_true h1)
   conv => whnf
   refine ⟨by omega, by omega, ?_⟩
   conv => whnf
   refine ⟨by omega, by omega, ?_⟩
   conv => whnf
   refine ⟨(show ((dv i : Nat) : Int) ≠ 0 by omega), (show inR .i64 (Int.tdiv (n : Int) (dv i : Int)) from i64 (by omega) (by omega)), ?_⟩
   conv => whnf
   refine ⟨_, hM, ?_⟩
   conv => whnf
   refine ⟨(show inR .i64 ((dv i : Int) * mu i) from i64 (by omega) (by omega)), ?_⟩
   conv => whnf
   refine ⟨(show inR .i64 (S i + (dv i : Int) * mu i) from i64 (by omega) (by omega)), ?_⟩
   conv => whnf
   refine ⟨i64 (by omega) (by omega), ?_⟩
   conv => whnf
   exact ⟨i + 1, by omega, Weak.gen [] rfl trivial ⟨⟨_, rfl, rfl⟩, ⟨_, rfl, rfl⟩, ⟨_, rfl, s1.symm⟩, .inl ⟨_, _, rfl, rfl, fun _ _ _ _ => rfl⟩, ⟨_, rfl, rfl⟩, trivial⟩, by omega⟩
  ·have s2 := s2 (of_decide_eq_false h1)
   conv => whnf
   refine ⟨i64 (by omega) (by omega), ?_⟩
   conv => whnf
   exact ⟨i + 1, by omega, Weak.gen [] rfl trivial ⟨⟨_, rfl, rfl⟩, ⟨_, rfl, rfl⟩, ⟨_, rfl, s2.symm⟩, .inl ⟨_, _, rfl, rfl, fun _ _ _ _ => rfl⟩, ⟨_, rfl, rfl⟩, trivial⟩, by omega⟩
 ·have h := of_decide_eq_false h
  have e : S i = S N := by rw [show i = N by omega]
  conv => whnf
  exact ⟨rfl, Sub.int e⟩
def ramB (n d : Nat) (T : List (List Int)) (dv : List Nat) (mu : List Int) : Bool := decide (dv.length ≤ 1000) && (List.range dv.length).all (fun i => decide (1 ≤ dv.getD i 0) && decide (dv.getD i 0 ≤ 1000) && decide (((dv.getD i 0 : Nat) : Int) * mu.getD i 0 ≤ 1000) && decide (-1000 ≤ ((dv.getD i 0 : Nat) : Int) * mu.getD i 0)) && (List.range n).all fun k => rsm k (fun i => dv.getD i 0) (fun i => mu.getD i 0) dv.length == Q.trc n d T k
theorem ram_check {n d : Nat} {T : List (List Int)} {dv : List Nat} {mu : List Int} (hn : n ≤ 42) (hb : ramB n d T dv mu = true) (hD : FnOK Tryz.prog false 61 [.c (.int .i64 n)] (.c (ints dv.length fun i => dv.getD i 0))) (hM : ∀ i, i < dv.length → FnOK Tryz.prog false 62 [.c (.int .i64 (n / dv.getD i 0 : Nat))] (.c (.int .i64 (mu.getD i 0)))) {k : Nat} (hk : k < n) : FnOK Tryz.prog false 34 [.c (.int .i64 n), .c (.int .i64 k)] (.c (.int .i64 (Q.trc n d T k))) := by
 unfold ramB at hb
 simp only [Bool.and_eq_true, decide_eq_true_eq] at hb
 obtain ⟨⟨h1, h2⟩, h3⟩ := hb
 have h2 := fun i hi => List.all_eq_true.1 h2 i (List.mem_range.2 hi)
 simp only [Bool.and_eq_true, decide_eq_true_eq] at h2
 have h3 := beq_iff_eq.1 (List.all_eq_true.1 h3 k (List.mem_range.2 hk))
 rw [← h3]
 exact ram_ok h1 (by omega) (by omega) hD (fun i hi => ⟨(h2 i hi).1.1.1, (h2 i hi).1.1.2⟩) (fun i hi => ⟨(h2 i hi).1.2, (h2 i hi).2⟩) hM
set_option maxHeartbeats 8000000 in
theorem traces_out {n k x : Int} (hw : FnOK Tryz.prog true 10 [] (.c (.bool true))) (hf : FnOK Tryz.prog true 11 [.c (.int .i64 n)] (.c (.int .i64 x))) (hx : x ≠ 0) : FnOK Tryz.prog true 7 [.c (.int .i64 n), .c (.int .i64 k)] (.c (.bool true)) := by
 refine fn_ok (E := E1) E1_ok Tryz.func7 rfl mixed (by kernel_rfl) (by kernel_rfl) ?_
 conv => whnf
 refine ⟨_, hw, ?_⟩
 conv => whnf
 refine ⟨_, hf, ?_⟩
 conv => whnf
 refine bpos (show (!decide (x = 0)) = true by rw [decide_eq_false hx]; rfl) ?_
 conv => whnf
 exact ⟨rfl, Sub.refl _⟩
set_option maxHeartbeats 8000000 in
theorem Cy.traces_law {n d : Nat} {φ : List Int} {T : List (List Int)} (C : Cy n d φ T) {k : Int} (hw : FnOK Tryz.prog false 10 [] (.c (.bool true))) (hR : ∀ {k : Nat}, k < n → FnOK Tryz.prog false 34 [.c (.int .i64 n), .c (.int .i64 k)] (.c (.int .i64 (Q.trc n d T k)))) (hT : ∀ k, -1000000 ≤ Q.trc n d T k ∧ Q.trc n d T k ≤ 1000000) : FnOK Tryz.prog true 7 [.c (.int .i64 n), .c (.int .i64 k)] (.c (.bool true)) := by
 have n1 := C.tab.n1
 have n2 := C.tab.n2
 have d2 := C.tab.d2
 have hw := hw.weak (r := true)
 have hf := C.fails.weak (r := true)
 have hK := rs_lt k n1
 have z1 := C.zeta_ok k
 have fl := C.fld
 have ev := ev_n (C.mn_fin 1 k) d2 (C.one_bd k) (by decide) (one_le_pow2 1000000) (by decide)
 have tr := C.trace_ok ev (by decide) (one_le_pow2 1000000) (by decide)
 -- the trace of a power
 have hv : Q.dg n d (Q.tq (mn n T 1 k) d) T (mn n T 1 k) = ((Q.trc n d T (rs k n) : Int) : Rat) := by
  have hg := Q.red_rm C.fk.fd.mon (Q.xp_fin 1)
  have hm := mrow_rm C.fk.fd.mon ev.fin
  have h1 := C.tab.trace ev.fin hg hm
  have h2 := C.tab.trace (Q.xp_fin (rs k n)) hg ⟨(C.one_rm k).trans_eq ((Q.Rm.self (C.mn_fin 1 k)).eq C.tab.mon hm.first), hm.next⟩
  rw [← h1, h2]
  have e := Q.su_one (f := fun l => Q.xp (rs k n) l * ((Q.trc n d T l : Int) : Rat)) (t := rs k n) (n := rs k n + 1) (by omega) fun i _ hi => by
   show Q.xp (rs k n) i * _ = 0
   rw [show Q.xp (rs k n) i = 0 from if_neg hi, Rat.zero_mul]
  show Q.su _ _ = _
  rw [e]
  show Q.xp (rs k n) (rs k n) * _ = _
  rw [show Q.xp (rs k n) (rs k n) = 1 from if_pos rfl, Rat.one_mul]
 rw [hv] at tr
 have hm := (mod15_ok (t := k) n1 (by omega)).weak (r := true)
 have hR := (hR hK).weak (r := true)
 have hT := hT (rs k n)
 generalize Q.trc n d T (rs k n) = t at *
 have ho := (rqof_ok (n := t) (by omega) (by omega)).weak (r := true)
 have hs : FnOK Tryz.prog true 23 [.g (nq (t : Rat)), .g (nq (t : Rat))] (.c (.bool true)) := by
  have h : qlen (t : Rat) ≤ 524286 := by
   show max (zlen (t : Rat).num) (zlen (((t : Rat).den : Nat) : Int)) ≤ 524286
   rw [Rat.num_intCast, Rat.den_intCast]
   exact Nat.max_le.2 ⟨Nat.le_trans (Z.zlen64 (by omega)) (by decide), by decide⟩
  have := (rqsame_n (x := (t : Rat)) (y := (t : Rat)) h).weak (r := true)
  rwa [decide_eq_true rfl] at this
 clear hv ev C
 generalize mn n T 1 k = R1 at *
 generalize Q.tq R1 d = L1 at *
 generalize rs k n = K at *
 generalize Z.gl φ = P at *
 refine fn_ok (E := E1) E1_ok Tryz.func7 rfl mixed (by kernel_rfl) (by kernel_rfl) ?_
 conv => whnf
 refine ⟨_, hw, ?_⟩
 conv => whnf
 refine ⟨_, hf, ?_⟩
 conv => whnf
 refine ⟨_, z1, ?_⟩
 conv => whnf
 refine ⟨_, fl, ?_⟩
 conv => whnf
 refine ⟨_, tr, ?_⟩
 conv => whnf
 refine ⟨_, hm, ?_⟩
 conv => whnf
 refine ⟨_, hR, ?_⟩
 conv => whnf
 refine ⟨_, ho, ?_⟩
 conv => whnf
 refine ⟨_, hs, ?_⟩
 conv => whnf
 exact ⟨rfl, Sub.refl _⟩
end Rf
end Go.Proofs.YtmbejakmeijcbaaGreat
