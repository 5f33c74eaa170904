/- The exported functions: quotients with remainders, products; the sizes that the statements look at. -/
import Derived.Test.YtmfaipklhkgieaaGreatFpF
namespace Go.Proofs.YtmfaipklhkgieaaGreat
open Go.RowKit
namespace Fp
theorem nf_range {p : Int} {n : Nat} {a : Nat → Int} (hp : 0 < p) (i : Nat) : 0 ≤ nf p n a i ∧ nf p n a i < p := by
  unfold nf
  split
  · exact ⟨Int.emod_nonneg _ (by omega), Int.emod_lt_of_pos _ hp⟩
  · omega
/-- What lies behind the length without zeros is zero. -/
theorem tl_behind {a : Nat → Int} : ∀ {n : Nat}, (∀ i, n ≤ i → a i = 0) → ∀ i, tl a n ≤ i → a i = 0
  | 0, h => fun i _ => h i (Nat.zero_le i)
  | n + 1, h => fun i hi => by
    unfold tl at hi
    by_cases e : a n = 0
    · rw [if_pos e] at hi
      refine tl_behind (n := n) (fun j hj => ?_) i hi
      rcases Nat.lt_or_ge n j with h1 | h1
      · exact h j h1
      · rw [show j = n by omega]; exact e
    · rw [if_neg e] at hi
      exact h i hi
theorem tl_last {a : Nat → Int} : ∀ {n : Nat}, 0 < tl a n → a (tl a n - 1) ≠ 0
  | 0, h => absurd h (Nat.lt_irrefl 0)
  | n + 1, h => by
    unfold tl at h ⊢
    by_cases e : a n = 0
    · rw [if_pos e] at h ⊢
      exact tl_last h
    · rw [if_neg e]
      exact e
theorem nf_behind {p : Int} {n : Nat} {a : Nat → Int} (i : Nat) (hi : tl (nf p n a) n ≤ i) : nf p n a i = 0 :=
  tl_behind (fun j hj => by unfold nf; rw [if_neg (by omega)]) i hi
set_option maxHeartbeats 4000000 in
theorem mul_ok {p : Int} {n m : Nat} {k : Nat} {a c X : Nat → Int} (hp : md p) (hn : n ≤ 4096) (hm : m ≤ 4096) (hd : FnOK Tryz.prog false 44 [.c (.int .i64 p), .c (il (tl (nf p n a) n) (nf p n a)), .c (il (tl (nf p m c) m) (nf p m c))] (.c (il k X))) : FnOK Tryz.prog false 22 [.c (.int .i64 p), .c (il n a), .c (il m c)] (.t2 (.c (il k X)) (.c (.int .i64 0))) := by
  have hf := normal_ok (p := p) (n := n) (a := a) (by have := hp.1; omega) hp.2.1 (by omega)
  have hg := normal_ok (p := p) (n := m) (a := c) (by have := hp.1; omega) hp.2.1 (by omega)
  refine fn_ok (E := E0) E0_ok Tryz.func22 rfl mixed (by kernel_rfl) (by kernel_rfl) ?_
  conv => whnf
  refine ⟨_, modulus_ok hp, ?_⟩
  conv => whnf
  refine ⟨_, hf, ?_⟩
  conv => whnf
  refine ⟨_, hg, ?_⟩
  conv => whnf
  refine ⟨_, hd, ?_⟩
  conv => whnf
  exact ⟨rfl, Sub.refl _⟩
theorem sub_ok {P : Program} {r : Bool} {f : FuncId} {args : List V} {X Y : V} (h : FnOK P r f args X) (hs : Sub X Y) : FnOK P r f args Y :=
  ⟨h.1, fun D w vs h1 h2 h3 => (h.2 D w vs h1 h2 h3).mono fun _ _ ⟨v, hv, hx, hb⟩ => ⟨v, hv, hs _ _ _ hx, hb⟩⟩
theorem divide_all {p : Int} {n m : Nat} {F G : Nat → Int} (hp : md p) (hn : n ≤ 4096) (h0 : 0 < m) (hF : ∀ i, 0 ≤ F i ∧ F i < p) (hG : ∀ i, 0 ≤ G i ∧ G i < p) (hl : G (m - 1) ≠ 0) (ht : tl F n = n) : FnOK Tryz.prog false 49 [.c (.int .i64 p), .c (il n F), .c (il m G)] (.t2 (.c (il (n + 1 - m) (dq p (inv (G (m - 1)) p) m (n + 1 - m) F G))) (.c (il (tl (dn p (inv (G (m - 1)) p) m (n + 1 - m) F G (n + 1 - m)) n) (dn p (inv (G (m - 1)) p) m (n + 1 - m) F G (n + 1 - m))))) := by
  rcases Nat.lt_or_ge n m with h | h
  · refine sub_ok (divide_short (p := p) (F := F) (G := G) hn h) ?_
    rw [show n + 1 - m = 0 by omega]
    exact subT2 (subNil rfl) (subRow ht.symm fun _ _ => rfl)
  · exact divide_ok hp hn h0 h hF hG hl
theorem refDivide_all {p : Int} {n0 m0 n m : Nat} {a c : Nat → Int} {F G : Nat → Int} (hp : md p) (hn0 : n0 ≤ 4096) (hm0 : m0 ≤ 4096) (eF : nf p n0 a = F) (eG : nf p m0 c = G) (en0 : tl F n0 = n) (em0 : tl G m0 = m) (h0 : 0 < m) (hF : ∀ i, 0 ≤ F i ∧ F i < p) (hG : ∀ i, 0 ≤ G i ∧ G i < p) (hl : G (m - 1) ≠ 0) (ht : tl F n = n) : FnOK Tryz.prog false 29 [.c (.int .i64 p), .c (il n0 a), .c (il m0 c)] (.t2 (.c (il (tl (nf p (n + 1 - m) (dq p (inv (G (m - 1)) p) m (n + 1 - m) F G)) (n + 1 - m)) (nf p (n + 1 - m) (dq p (inv (G (m - 1)) p) m (n + 1 - m) F G)))) (.c (il (tl (nf p n (dn p (inv (G (m - 1)) p) m (n + 1 - m) F G (n + 1 - m))) n) (nf p n (dn p (inv (G (m - 1)) p) m (n + 1 - m) F G (n + 1 - m)))))) := by
  rcases Nat.lt_or_ge n m with h | h
  · refine sub_ok (refDivide_short (by have := hp.1; omega) hp.2.1 hn0 hm0 eF eG en0 em0 h) ?_
    rw [show n + 1 - m = 0 by omega]
    have e : ∀ i, i < n → nf p n F i = F i := fun i hi => by unfold nf; rw [if_pos hi, Int.emod_eq_of_lt (hF i).1 (hF i).2]
    exact subT2 (subNil rfl) (subRow (by show n = tl (nf p n F) n; rw [tl_congr e]; exact ht.symm) fun i hi => (e i (by have := tl_le (nf p n F) n; have hi : i < tl (nf p n F) n := hi; omega)).symm)
  · exact refDivide_ok hp hn0 hm0 eF eG en0 em0 h0 h hF hG hl
end Fp
end Go.Proofs.YtmfaipklhkgieaaGreat
