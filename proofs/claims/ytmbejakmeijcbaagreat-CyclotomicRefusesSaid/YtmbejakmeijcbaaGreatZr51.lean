/- The law CyclotomicRefuses: what the runs at orders up to 512 give, and the law. -/
import Derived.Test.YtmbejakmeijcbaaGreatZr37
import Derived.Test.YtmbejakmeijcbaaGreatZr38
import Derived.Test.YtmbejakmeijcbaaGreatZr49
import Derived.Test.YtmbejakmeijcbaaGreatZr50
namespace Go.Proofs.YtmbejakmeijcbaaGreat
open Go.RowKit
namespace Dv
theorem run_fn {f : FuncId} {n : Nat} {Y : V} (h : ((runP f n).map (fun X => sameV X Y) == some true) = true) : FnOK Tryz.prog false f [.c (.int .i64 n)] Y :=
 runY_same orcP_ok (inl := dvI) (beq_iff_eq.1 h)
theorem mob_at {n : Nat} (h1 : 1 ≤ n) (h2 : n ≤ 512) : FnOK Tryz.prog false 64 [.c (.int .i64 n)] (.t2 (.c (.int .i64 (mbT.getD n 0))) (.c (.int .i64 0))) := run_fn (mob_run h1 h2)
theorem phi_at {n : Nat} (h1 : 1 ≤ n) (h2 : n ≤ 512) : FnOK Tryz.prog false 75 [.c (.int .i64 n)] (.t2 (.c (.int .i64 (phT.getD n 0 : Nat))) (.c (.int .i64 0))) := run_fn (phi_run h1 h2)
theorem rph_at {n : Nat} (h1 : 1 ≤ n) (h2 : n ≤ 512) : FnOK Tryz.prog false 36 [.c (.int .i64 n)] (.c (.int .i64 (phT.getD n 0 : Nat))) := run_fn (rph_run h1 h2)
theorem div_at {n : Nat} (h1 : 1 ≤ n) (h2 : n ≤ 512) : FnOK Tryz.prog false 63 [.c (.int .i64 n)] (.t2 (.c (Rf.ints (dvs n).length fun i => (dvs n).getD i 0)) (.c (.int .i64 0))) := runY_same orcP_ok (inl := dvJ) (beq_iff_eq.1 (div_run h1 h2))
theorem dvs_mem {n i : Nat} (h : i < (dvs n).length) : 1 ≤ (dvs n).getD i 0 ∧ (dvs n).getD i 0 ≤ n ∧ n % (dvs n).getD i 0 = 0 := by
 have hm : (dvs n).getD i 0 ∈ dvs n := by
  rw [List.getD_eq_getElem?_getD, List.getElem?_eq_getElem h]
  exact List.getElem_mem h
 generalize (dvs n).getD i 0 = d at hm
 unfold dvs at hm
 rw [List.mem_filter, List.mem_map] at hm
 obtain ⟨⟨a, ha, rfl⟩, hb⟩ := hm
 have ha := List.mem_range.1 ha
 exact ⟨by omega, by show a + 1 ≤ n; omega, by simpa using hb⟩
theorem poly_at {n : Nat} (h1 : 1 ≤ n) (h2 : n ≤ 512) : ∃ g, FnOK Tryz.prog true 35 [.c (.int .i64 n)] (.t2 (.c (nl (phT.getD n 0 + 1) g)) (.c (.int .i64 0))) := by
 have hc := ch_run h1 h2
 unfold chB at hc
 simp only [Bool.and_eq_true, beq_iff_eq] at hc
 obtain ⟨g, hg⟩ := poly_len (n := n) (N := (dvs n).length) (dv := fun i => (dvs n).getD i 0) (mu := fun i => mbT.getD (n / (dvs n).getD i 0) 0) h1 h2 hc.1 (div_at h1 h2).weak fun i hi => by
  have hd := dvs_mem hi
  have q1 : 1 ≤ n / (dvs n).getD i 0 := Nat.div_pos hd.2.1 hd.1
  have q2 : n / (dvs n).getD i 0 ≤ 512 := Nat.le_trans (Nat.div_le_self _ _) h2
  have hm := (mob_at q1 q2).weak (r := true)
  rw [Rf.tdiv_nat hd.1]
  exact hm
 rw [hc.2] at hg
 exact ⟨g, hg⟩
end Dv
namespace Rf
theorem err_all (n : Int) : ∃ e : Int, FnOK Tryz.prog true 42 [.c (.int .i64 n)] (.c (.int .i64 e)) ∧ FnOK Tryz.prog true 11 [.c (.int .i64 n)] (.c (.int .i64 e)) ∧ (e = 0 → ∃ k : Nat, n = k ∧ k ∈ ordsL) := by
 by_cases h : n < 1 ∨ 512 < n
 ·exact ⟨2, (check_out h).weak, (fails_out h).weak, fun e => absurd e (by decide)⟩
 ·obtain ⟨k, rfl⟩ : ∃ k : Nat, n = k := ⟨n.toNat, by omega⟩
  have h1 : 1 ≤ k := by omega
  have h2 : k ≤ 512 := by omega
  have hf := fails_of h1 h2 (Dv.rph_at h1 h2)
  obtain ⟨x, hx, hi⟩ := fails_in h1 h2
  refine ⟨_, (check_of h1 h2 (Dv.phi_at h1 h2)).weak, hf.weak, fun e => ⟨k, rfl, ?_⟩⟩
  have t : (List.range 512).all (fun k => decide (12 < Dv.phT.getD (k + 1) 0) || ordsL.contains (k + 1)) = true := by decide +kernel
  have := List.all_eq_true.1 t (k - 1) (List.mem_range.2 (by omega))
  rw [Nat.sub_add_cancel h1, Bool.or_eq_true] at this
  rcases this with h | h
  ·rw [if_pos (of_decide_eq_true h)] at e
   exact absurd e (by decide)
  ·exact List.contains_iff_mem.1 h
theorem refE {n m e : Int} {N : Nat} {q : Nat → RawR} (hc : FnOK Tryz.prog true 42 [.c (.int .i64 n)] (.c (.int .i64 e))) (hf : FnOK Tryz.prog true 11 [.c (.int .i64 n)] (.c (.int .i64 e))) (he : e ≠ 0) : RefE n m e N q := by
 obtain ⟨b, hb, _⟩ := err_all m
 have hl := lift_err (N := N) (q := q) hc hb (fun h => absurd h he) (.inl he)
 rw [if_pos he] at hl
 exact ⟨field_err hc he, zeta_no hc he, galois_err hc he, conj_err (galois_err hc he), hl, rat_err hc he, root_err hc he, hf⟩
theorem refuses_in {n : Nat} {m : Int} {N : Nat} {q : Nat → RawR} (hn : n ∈ ordsL) (n1 : 1 ≤ n) (n2 : n ≤ 512) (hw : FnOK Tryz.prog true 10 [] (.c (.bool true))) (hs : FnOK Tryz.prog true 19 [.c (.row 1 1 (rowF 1 [ql N q]))] (.c (.bool true))) (hq : ∀ j, j < N → dgq (q j)) (h : N ≤ 16 ∧ ∀ j, j < N → okd (q j)) : FnOK Tryz.prog true 8 [.c (.int .i64 n), .c (.int .i64 m), .c (ql N q)] (.c (.bool true)) := by
 obtain ⟨g, hp⟩ := Dv.poly_at n1 n2
 have hf := (Dv.rph_at n1 n2).weak (r := true)
 have p1 : Dv.phT.getD n 0 ≤ 1000 := by
  have t : (List.range 513).all (fun k => Nat.ble (Dv.phT.getD k 0) 1000) = true := by decide +kernel
  exact Nat.le_of_ble_eq_true (List.all_eq_true.1 t n (List.mem_range.2 (by omega)))
 have C := cy_at hn
 obtain ⟨D, d0, d1, ev, _⟩ := pair15 hq hq h.1 h.1 h.2 h.2
 have hD := dn15 d0 d1
 obtain ⟨r, hr⟩ := C.ex_rm ev.fin
 have h2 := C.zeta_ok 1
 have gc : Nat.gcd (rs (-1) n) n = 1 := by rw [rs_gcd _ n1]; exact Nat.gcd_one_left n
 have h4 := conj_of (d := dOf n) (C.galois_ok (t := -1) ev hD.pos hD.b (by decide) hr gc) rfl
 obtain ⟨K, b, hK⟩ := root_is n (tbOf n) r
 have h7 := C.root_ok ev hD.pos hD.b (by decide) hr hK
 have h8 := C.fails.weak (r := true)
 obtain ⟨e, c1, c2, c3⟩ := err_all m
 have cn := C.chk
 have h1 := C.fld
 by_cases hz : ∀ j, 1 ≤ j → r j = 0
 ·have h6 := C.rat_yes ev hD.pos hD.b (by decide) hr hz
  by_cases he : e = 0
  ·subst he
   by_cases ht : Int.tmod m n = 0
   ·obtain ⟨k, rfl, hk⟩ := c3 rfl
    have C' := cy_at hk
    have hm : k % n = 0 := by rw [tmod_nat] at ht; omega
    have h5 := C.lift_ok C' hm ev hD.pos hD.b (by decide) hr
    by_cases h0 : n = 1
    ·exact refuses_1yq n1 n2 h0 ht p1 hw hs hp hf h1 h2 (C.galois_ok (t := 0) ev hD.pos hD.b (by decide) hr (by rw [h0]; rfl)) h4 h5 h6 h7 h8 c2
    ·exact refuses_0yq n1 n2 h0 ht p1 hw hs hp hf h1 h2 (C.galois_no (t := 0) (by rw [show rs 0 n = 0 by show ((0 : Int) % n).toNat = 0; simp, Nat.gcd_zero_left]; exact h0)) h4 h5 h6 h7 h8 c2
   ·have h5 := lift_err (N := N) (q := q) cn c1 (fun _ => by omega) (.inr (.inr ht))
    by_cases h0 : n = 1
    ·exact absurd (by rw [h0]; exact Int.tmod_one m) ht
    ·exact refuses_0tq n1 n2 h0 ht p1 hw hs hp hf h1 h2 (C.galois_no (t := 0) (by rw [show rs 0 n = 0 by show ((0 : Int) % n).toNat = 0; simp, Nat.gcd_zero_left]; exact h0)) h4 h5 h6 h7 h8 c2
  ·have h5 := lift_err (N := N) (q := q) cn c1 (fun _ => by omega) (.inr (.inl he))
   rw [if_neg (by decide), if_pos he] at h5
   by_cases h0 : n = 1
   ·exact refuses_1bq n1 n2 h0 he p1 hw hs hp hf h1 h2 (C.galois_ok (t := 0) ev hD.pos hD.b (by decide) hr (by rw [h0]; rfl)) h4 h5 h6 h7 h8 c2
   ·exact refuses_0bq n1 n2 h0 he p1 hw hs hp hf h1 h2 (C.galois_no (t := 0) (by rw [show rs 0 n = 0 by show ((0 : Int) % n).toNat = 0; simp, Nat.gcd_zero_left]; exact h0)) h4 h5 h6 h7 h8 c2
 ·have h6 := C.rat_no ev hD.pos hD.b (by decide) hr hz
  by_cases he : e = 0
  ·subst he
   by_cases ht : Int.tmod m n = 0
   ·obtain ⟨k, rfl, hk⟩ := c3 rfl
    have C' := cy_at hk
    have hm : k % n = 0 := by rw [tmod_nat] at ht; omega
    have h5 := C.lift_ok C' hm ev hD.pos hD.b (by decide) hr
    by_cases h0 : n = 1
    ·exact refuses_1yz n1 n2 h0 ht p1 hw hs hp hf h1 h2 (C.galois_ok (t := 0) ev hD.pos hD.b (by decide) hr (by rw [h0]; rfl)) h4 h5 h6 h7 h8 c2
    ·exact refuses_0yz n1 n2 h0 ht p1 hw hs hp hf h1 h2 (C.galois_no (t := 0) (by rw [show rs 0 n = 0 by show ((0 : Int) % n).toNat = 0; simp, Nat.gcd_zero_left]; exact h0)) h4 h5 h6 h7 h8 c2
   ·have h5 := lift_err (N := N) (q := q) cn c1 (fun _ => by omega) (.inr (.inr ht))
    by_cases h0 : n = 1
    ·exact absurd (by rw [h0]; exact Int.tmod_one m) ht
    ·exact refuses_0tz n1 n2 h0 ht p1 hw hs hp hf h1 h2 (C.galois_no (t := 0) (by rw [show rs 0 n = 0 by show ((0 : Int) % n).toNat = 0; simp, Nat.gcd_zero_left]; exact h0)) h4 h5 h6 h7 h8 c2
  ·have h5 := lift_err (N := N) (q := q) cn c1 (fun _ => by omega) (.inr (.inl he))
   rw [if_neg (by decide), if_pos he] at h5
   by_cases h0 : n = 1
   ·exact refuses_1bz n1 n2 h0 he p1 hw hs hp hf h1 h2 (C.galois_ok (t := 0) ev hD.pos hD.b (by decide) hr (by rw [h0]; rfl)) h4 h5 h6 h7 h8 c2
   ·exact refuses_0bz n1 n2 h0 he p1 hw hs hp hf h1 h2 (C.galois_no (t := 0) (by rw [show rs 0 n = 0 by show ((0 : Int) % n).toNat = 0; simp, Nat.gcd_zero_left]; exact h0)) h4 h5 h6 h7 h8 c2
open Classical in
theorem refuses_ok (n m : Int) {N : Nat} {q : Nat → RawR} (hw : FnOK Tryz.prog false 10 [] (.c (.bool true))) (hq : ∀ j, j < N → dgq (q j)) : FnOK Tryz.prog true 8 [.c (.int .i64 n), .c (.int .i64 m), .c (ql N q)] (.c (.bool true)) := by
 have hs := (short15_one (n := N) (q := q) (r := decide (N ≤ 16 ∧ ∀ j, j < N → okd (q j))) decide_eq_true_iff).weak (r := true)
 by_cases h : N ≤ 16 ∧ ∀ j, j < N → okd (q j)
 ·rw [decide_eq_true h] at hs
  by_cases hn : n < 1 ∨ 512 < n
  ·exact refuses_out hn hw.weak hs (poly_out hn).weak (refE (check_out hn).weak (fails_out hn).weak (by decide))
  ·obtain ⟨k, rfl⟩ : ∃ k : Nat, n = k := ⟨n.toNat, by omega⟩
   have n1 : 1 ≤ k := by omega
   have n2 : k ≤ 512 := by omega
   by_cases hk : k ∈ ordsL
   ·exact refuses_in hk n1 n2 hw.weak hs hq h
   ·have t : (List.range 512).all (fun k => decide (12 < Dv.phT.getD (k + 1) 0) || ordsL.contains (k + 1)) = true := by decide +kernel
    have := List.all_eq_true.1 t (k - 1) (List.mem_range.2 (by omega))
    rw [Nat.sub_add_cancel n1, Bool.or_eq_true] at this
    have hp := this.resolve_right (fun c => hk (List.contains_iff_mem.1 c))
    have hp := of_decide_eq_true hp
    have c1 := (check_of n1 n2 (Dv.phi_at n1 n2)).weak (r := true)
    have c2 := (fails_of n1 n2 (Dv.rph_at n1 n2)).weak (r := true)
    rw [if_pos hp] at c1 c2
    obtain ⟨g, hg⟩ := Dv.poly_at n1 n2
    have p1 : Dv.phT.getD k 0 ≤ 1000 := by
     have t : (List.range 513).all (fun k => Nat.ble (Dv.phT.getD k 0) 1000) = true := by decide +kernel
     exact Nat.le_of_ble_eq_true (List.all_eq_true.1 t k (List.mem_range.2 (by omega)))
    exact refuses_big n1 n2 p1 hw.weak hs hg (Dv.rph_at n1 n2).weak (refE c1 c2 (by decide))
 ·rw [decide_eq_false h] at hs
  exact refuses_long hw.weak hs
end Rf
end Go.Proofs.YtmbejakmeijcbaaGreat
