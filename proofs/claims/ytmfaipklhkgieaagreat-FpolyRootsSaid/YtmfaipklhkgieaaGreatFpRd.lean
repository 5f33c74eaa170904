/- The law FpolyRoots, as a contract. -/
import Derived.Test.YtmfaipklhkgieaaGreatFpRc
import Derived.Test.YtmfaipklhkgieaaGreatFpOps
namespace Go.Proofs.YtmfaipklhkgieaaGreat
open Go.RowKit
namespace Fp
theorem gc_xgR {p : Int} : ∀ (t : Nat) {r s u v : L}, gc p t r.1 r.2 s.1 s.2 = (xg p t r s u v).1
  | 0, _, _, _, _ => rfl
  | t + 1, r, s, u, v => by
    show (if s.1 = 0 then (r.1, r.2) else gc p t s.1 s.2 (rstL p r s).1 (rstL p r s).2) = (if s.1 = 0 then (r, u) else xg p t s (rstL p r s) v (subL p u (mulL p (quoL p r s) v))).1
    by_cases h : s.1 = 0
    · rw [if_pos h, if_pos h]
    · rw [if_neg h, if_neg h]
      exact gc_xgR t
theorem refGcd_R {p : Int} {x y : L} (hp : md p) (hx : NL p x) (hy : NL p y) : FnOK Tryz.prog false 19 [.c (.int .i64 p), cl x, cl y] (cl (moL p (xgr p x y).1)) := by
  have h := refGcd_ok (a := x.2) (c := y.2) hp hx.n4 hy.n4 hx.self hy.self hx.t hy.t
  have e : gc p y.1 x.1 x.2 y.1 y.2 = (xgr p x y).1 := gc_xgR (p := p) y.1 (r := x) (s := y) (u := one1) (v := nil0)
  rw [e] at h
  exact h
theorem subXL {D : Nat → Prop} {w : World} {v : Value} {g : Nat → Nat → Cell} (h : g 0 0 = .int .i64 0) (h2 : g 1 0 = .int .i64 1) (hv : VRel D w [] (.c (.row 1 2 g)) v) : VRel D w [] (cl XL) v :=
  subRowG rfl (fun i j hi hj => by
    match i, j, hi, hj with
    | 0, 0, _, _ => exact h
    | 1, 0, _, _ => exact h2) D w v hv
abbrev xC : V := .c (.row 1 2 (rowF 1 [.int .i64 0, .int .i64 1]))
theorem arg4X {P : Program} {r : Bool} {f : FuncId} {a0 a2 a3 X : V} (h : FnOK P r f [a0, cl XL, a2, a3] X) : FnOK P r f [a0, xC, a2, a3] X :=
  arg_ok h fun _ _ vs h => match vs, h with
    | [_, _, _, _], ⟨e0, e1, e2, e3, _⟩ => ⟨e0, subXL rfl rfl e1, e2, e3, trivial⟩
theorem arg3X {P : Program} {r : Bool} {f : FuncId} {a0 a1 X : V} (h : FnOK P r f [a0, a1, cl XL] X) : FnOK P r f [a0, a1, xC] X :=
  arg_ok h fun _ _ vs h => match vs, h with
    | [_, _, _], ⟨e0, e1, e2, _⟩ => ⟨e0, e1, subXL rfl rfl e2, trivial⟩
theorem gn {b : Bool} (h : b = false) : gw false b = true := by subst h; rfl
theorem gp {b : Bool} (h : b = true) : gw true b = true := by subst h; rfl
theorem gz {b : Bool} (h : b = false) : gw true b = false := by subst h; rfl
/-- A loop, of which a round that goes on knows nothing of what comes behind the loop. -/
theorem loop_two {E : Env} {c : Code} {σ : St} {R : Exit → St → Prop} {α : Type} (S : α → St) (m : α → Nat) (I : α → Prop) (x0 : α) (hm : E.m0 = 0) (h0 : Weak 0 σ (S x0)) (hI : I x0) (hr : ∀ x, I x → (∀ R', awp E c (S x) (seqR (fun σ2 => ∃ x', m x' < m x ∧ Weak 0 σ2 (S x') ∧ I x') R')) ∨ awp E c (S x) (seqR (fun σ2 => ∃ x', m x' < m x ∧ Weak 0 σ2 (S x') ∧ I x') R)) : awp E (.loop c) σ R :=
  loop_ints S m I x0 hm h0 hI fun x hx => (hr x hx).elim (fun h => h R) id
theorem awp_skipK {E : Env} {σ : St} {K : St → Prop} {R : Exit → St → Prop} (h : K σ) : awp E .skip σ (seqR K R) := h
/-- A drawn region at a round's start: the kernel is led to it by hand. -/
theorem awp_bsd {E : Env} {j id : Nat} {ops : Array Oper} {b1 b2 : Code} {σ : St} {R : Exit → St → Prop} (h : adraw E ops σ (fun σ' => awp E b1 σ' (blockR j (seqR (fun σ' => awp E b2 σ' R) R)))) : awp E (.seq (.block j (.seq (.region id ops true) b1)) b2) σ R := h
open Classical in
set_option maxRecDepth 100000 in
set_option maxHeartbeats 16000000 in
theorem roots_ok {p x : Int} {n m l q : Nat} {a c h d : Nat → Int} {s : Bool} : FnOK Tryz.prog false 4 [PQ p n m l q a c h d s x] (.c (.bool true)) := by
  refine fn_ok (E := E0) E0_ok Tryz.func4 rfl mixed (by kernel_rfl) (by kernel_rfl) ?_
  conv => whnf
  refine ⟨_, awake_ok, ?_⟩
  conv => whnf
  refine ⟨_, long_pq, ?_⟩
  conv => whnf
  refine bcase (fun h1 => ?_) fun h1 => ?_
  · have h1 := of_decide_eq_false (gwf h1)
    conv => whnf
    refine bcase (fun (h2 : decide ((16 : Int) < n) = true) => ?_) fun (h2 : decide ((16 : Int) < n) = false) => ?_
    · conv => whnf
      exact ⟨rfl, Sub.refl _⟩
    · have h2 := of_decide_eq_false h2
      conv => whnf
      by_cases hp : md p
      · have hp0 : 0 < p := by have := hp.1; omega
        have hdg := degree_ok (p := p) (n := n) (a := a) hp0 hp.2.1 (by omega)
        by_cases h0 : (nfL p (n, a)).1 = 0
        · refine ⟨_, Roots_zero (x := (n, a)) hp (by show n ≤ 4096; omega) rfl h0, ?_⟩
          conv => whnf
          refine ⟨_, refModulus_ok, ?_⟩
          conv => whnf
          refine bneg (show (!decide (md p)) = false by simpa using hp) ?_
          conv => whnf
          refine ⟨_, hdg, ?_⟩
          conv => whnf
          refine bpos (show decide (((tl (nf p n a) n : Nat) : Int) - 1 < 0) = true by have h0 : tl (nf p n a) n = 0 := h0; simp; omega) ?_
          conv => whnf
          exact ⟨rfl, Sub.refl _⟩
        · have hdeg : ¬ (((tl (nf p n a) n : Nat) : Int) - 1 < 0) := by have h0 : tl (nf p n a) n ≠ 0 := h0; omega
          have hR := Roots_ok (x := (n, a)) hp (by show n ≤ 64; omega) rfl (Nat.pos_of_ne_zero h0)
          have hat := rl_at (p := p) (f := nfL p (n, a)) p.toNat
          have hle := rl_le (p := p) (f := nfL p (n, a)) p.toNat
          have hcn := rl_cnt hp (NL.nfL (x := (n, a)) hp (by show n ≤ 4096; omega)) p.toNat
          generalize hRR : rl p (nfL p (n, a)) p.toNat = R at *
          have hf := NL.nfL (x := (n, a)) hp (by show n ≤ 4096; omega)
          have hfl : (nfL p (n, a)).1 ≤ n := nfL_le p (n, a)
          have hN : FnOK Tryz.prog false 18 [.c (.int .i64 p), cl (n, a)] (cl (nfL p (n, a))) := refNormal_ok hp0 hp.2.1 (by omega)
          obtain ⟨r, hr⟩ := rp_pow hp hf (Nat.pos_of_ne_zero h0) (by omega) (NL.X hp) p.toNat
          have hrl := hr.s
          have hW := power_ok (x := XL) (y := nfL p (n, a)) (a := fun _ => p) (s := false) (q := 1) hp (by show 2 ≤ 1024; omega) (by omega) (nfL_id (NL.X hp)) (nfL_id hf) (Nat.pos_of_ne_zero h0) (by omega) (fun _ => ⟨by omega, by have := hp.2.1; omega⟩) (by rw [bs_of hp]; exact hr)
          have hS := refSub_L hp hr.n (NL.X hp)
          have hG := refGcd_R hp hf (hr.n.sub hp (NL.X hp))
          have hlen := gcd_roots hp hf (Nat.pos_of_ne_zero h0) (by omega) hr
          have hof := rof_ok hp0 hp.2.1
          rw [← hcn] at hlen
          have hW2 := arg4X hW
          have hS2 := arg3X hS
          generalize moL p (xgr p (nfL p (n, a)) (subL p r XL)).1 = dd at *
          refine ⟨_, hR, ?_⟩
          conv => whnf
          refine ⟨_, refModulus_ok, ?_⟩
          conv => whnf
          refine bneg (show (!decide (md p)) = false by simpa using hp) ?_
          conv => whnf
          refine ⟨_, hdg, ?_⟩
          conv => whnf
          refine bneg (show decide (((tl (nf p n a) n : Nat) : Int) - 1 < 0) = false from decide_eq_false hdeg) ?_
          conv => whnf
          refine loop_two (fun i : Nat => ⟨asg [(1, .c (.p 0 0 7 0 0)), (3, cl R), (4, .c (.int .i64 0)), (5, .c (.int .i64 i))], [⟨28, 7, 1, 0, 0, boxF [.int .i64 p, il n a, il m c, il l h, .bool s, .row 1 q fun i _ => .int .u32 (d i), .int .i64 x]⟩]⟩) (fun i => R.1 - i) (fun i => i ≤ R.1) 0 rfl ?_ (Nat.zero_le _) fun i hi => ?_
          · exact Weak.cut rfl ⟨rfl, rfl, rfl, rfl, trivial⟩ rfl ⟨fun _ i j hi hj => match i, j, hi, hj with
              | 0, 0, _, _ => rfl
              | 0, 1, _, _ => rfl
              | 0, 2, _, _ => rfl
              | 0, 3, _, _ => rfl
              | 0, 4, _, _ => rfl
              | 0, 5, _, _ => rfl
              | 0, 6, _, _ => rfl, trivial⟩ rfl
          rcases Nat.lt_or_ge i R.1 with h3 | h3
          · refine .inl fun R' => ?_
            obtain ⟨a1, a2, a3, a4⟩ := hat i h3
            have hi2 : i < 65521 := by have := hp.2.1; omega
            have hev : FnOK Tryz.prog false 17 [.c (.int .i64 p), .c (il n a), .c (.int .i64 (R.2 i))] (.c (.int .i64 0)) := by
              have e := refEval_L (x := (n, a)) (v := R.2 i) hp (by show n ≤ 4096; omega)
              rw [Int.emod_eq_of_lt a1 (by omega), a3] at e
              exact e
            conv => whnf
            refine bpos (show decide ((i : Int) < R.1) = true by simp; omega) ?_
            refine awp_skipK ?_
            refine awp_bsd ?_
            conv => whnf
            refine ⟨by omega, by omega, ?_⟩
            conv => whnf
            refine bpos (gn (show decide (R.2 i < 0) = false from decide_eq_false (by omega))) ?_
            conv => whnf
            refine ⟨by omega, by omega, ?_⟩
            conv => whnf
            refine bpos (gn (show decide (p ≤ R.2 i) = false from decide_eq_false (by omega))) ?_
            conv => whnf
            refine bcase (fun (h4 : gw true (decide ((0 : Int) < i)) = true) => ?_) fun (h4 : gw true (decide ((0 : Int) < i)) = false) => ?_
            · have h4 : (0 : Int) < i := of_decide_eq_true (gw_true.1 h4)
              conv => whnf
              refine ⟨i64 (by omega) (by omega), ?_⟩
              conv => whnf
              refine ⟨by omega, by show (i : Int) - 1 < R.1; omega, ?_⟩
              conv => whnf
              refine ⟨by omega, by omega, ?_⟩
              conv => whnf
              have ei : ((i : Int) - 1).toNat = i - 1 := by omega
              refine bpos (gn (show decide (R.2 i ≤ R.2 ((i : Int) - 1).toNat) = false from decide_eq_false (by rw [ei]; have := a4 (by omega); omega))) ?_
              conv => whnf
              refine ⟨by omega, by omega, ?_⟩
              conv => whnf
              refine ⟨_, hev, ?_⟩
              conv => whnf
              refine ⟨i64 (by omega) (by omega), ?_⟩
              conv => whnf
              refine ⟨i + 1, by show R.1 - (i + 1) < R.1 - i; omega, ?_, by show i + 1 ≤ R.1; omega⟩
              exact Weak.cut rfl ⟨rfl, rfl, rfl, rfl, trivial⟩ rfl ⟨fun _ i j hi hj => match i, j, hi, hj with
                | 0, 0, _, _ => rfl
                | 0, 1, _, _ => rfl
                | 0, 2, _, _ => rfl
                | 0, 3, _, _ => rfl
                | 0, 4, _, _ => rfl
                | 0, 5, _, _ => rfl
                | 0, 6, _, _ => rfl, trivial⟩ rfl
            · have h4 : ¬ (0 : Int) < i := of_decide_eq_false (gw_false.1 h4)
              conv => whnf
              refine ⟨by omega, by omega, ?_⟩
              conv => whnf
              refine ⟨_, hev, ?_⟩
              conv => whnf
              refine ⟨i64 (by omega) (by omega), ?_⟩
              conv => whnf
              refine ⟨i + 1, by show R.1 - (i + 1) < R.1 - i; omega, ?_, by show i + 1 ≤ R.1; omega⟩
              exact Weak.cut rfl ⟨rfl, rfl, rfl, rfl, trivial⟩ rfl ⟨fun _ i j hi hj => match i, j, hi, hj with
                | 0, 0, _, _ => rfl
                | 0, 1, _, _ => rfl
                | 0, 2, _, _ => rfl
                | 0, 3, _, _ => rfl
                | 0, 4, _, _ => rfl
                | 0, 5, _, _ => rfl
                | 0, 6, _, _ => rfl, trivial⟩ rfl
          · obtain rfl : i = R.1 := by omega
            refine .inr ?_
            conv => whnf
            refine bneg (show decide ((R.1 : Int) < R.1) = false from decide_eq_false (Int.lt_irrefl _)) ?_
            conv => whnf
            refine .inr ?_
            conv => whnf
            refine ⟨_, hN, ?_⟩
            conv => whnf
            refine .inr ⟨rfl, ?_⟩
            conv => whnf
            refine ⟨_, hof, ?_⟩
            conv => whnf
            refine ⟨_, hW2, ?_⟩
            conv => whnf
            refine .inr ⟨rfl, ?_⟩
            conv => whnf
            refine ⟨_, hS2, ?_⟩
            conv => whnf
            refine ⟨_, hG, ?_⟩
            conv => whnf
            refine ⟨i64 (by omega) (by have := hp.2.1; omega), ?_⟩
            conv => whnf
            exact ⟨rfl, subB (decide_eq_true (by omega))⟩
      · refine ⟨_, Roots_no (x := (n, a)) hp, ?_⟩
        conv => whnf
        refine ⟨_, refModulus_ok, ?_⟩
        conv => whnf
        refine bpos (show (!decide (md p)) = true by simpa using hp) ?_
        conv => whnf
        exact ⟨rfl, Sub.refl _⟩
  · conv => whnf
    exact ⟨rfl, Sub.refl _⟩
end Fp
end Go.Proofs.YtmfaipklhkgieaaGreat
