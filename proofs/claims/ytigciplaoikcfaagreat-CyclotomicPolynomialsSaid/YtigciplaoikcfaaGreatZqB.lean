/- The document's polynomials over the integers: sums, multiples, products, shifts; the same as themselves. -/
import Derived.Test.YtigciplaoikcfaaGreatZp
import Derived.Test.YtigciplaoikcfaaGreatZm
import Derived.Test.YtigciplaoikcfaaGreatSmC
namespace Go.Proofs.YtigciplaoikcfaaGreat
open Go.RowKit
namespace Rf
theorem one_nz {bl : List Blk} (x : Int) (r : Bool) (i j : Nat) (hi : i < 1) (hj : j < 2) : St.one bl (rowF 2 (nz x) i j) = true ∧ (r = true → (rowF 2 (nz x) i j).noU = true) := by
  match i, j, hi, hj with
  | 0, 0, _, _ => exact ⟨rfl, fun _ => rfl⟩
  | 0, 1, _, _ => exact ⟨rfl, fun _ => rfl⟩
theorem zadd_n {x y : Int} (h : zlen x ≤ 1048575) (h' : zlen y ≤ 1048575) : FnOK Tryz.prog false 86 [.g (nz x), .g (nz y)] (.g (nz (x + y))) := by
  have := zadd_ok (a := ofZ x) (b := ofZ y) (wr_nz (by omega)) (wr_nz (by omega)) (by rw [ofZ_val]; exact h) (by rw [ofZ_val]; exact h')
  rwa [ofZ_val, ofZ_val] at this
theorem wl_n {n : Nat} {v : Nat → Int} (hn : n ≤ 1048576) (h : ∀ i, zlen (v i) ≤ 1048576) : wl n fun i => ofZ (v i) := ⟨hn, fun i _ => wr_nz (h i)⟩
theorem vz_n (v : Nat → Int) : vz (fun i => ofZ (v i)) = v := funext fun i => ofZ_val (v i)
theorem normal5_n {n : Nat} {v : Nat → Int} (hn : n ≤ 1048576) (h : ∀ i, zlen (v i) ≤ 1048576) : FnOK Tryz.prog false 103 [.c (nl n v)] (.c (nl (tl v n) v)) := by
  have := normal5_ok (wl_n hn h)
  rwa [vz_n] at this
theorem degree5_n {n : Nat} {v : Nat → Int} (hn : n ≤ 1048576) (h : ∀ i, zlen (v i) ≤ 1048576) : FnOK Tryz.prog false 104 [.c (nl n v)] (.c (.int .i64 ((tl v n : Nat) - 1))) := by
  have := degree5_ok (wl_n hn h)
  rwa [vz_n] at this
theorem lead5_n {n : Nat} {v : Nat → Int} (hn : n ≤ 1048576) (h : ∀ i, zlen (v i) ≤ 1048576) : FnOK Tryz.prog false 106 [.c (nl n v)] (.g (nz (ldc n v))) := by
  have := lead5_ok (wl_n hn h)
  rwa [vz_n] at this
theorem at5_n {n i : Nat} {v : Nat → Int} (hn : n ≤ 1048576) (h : ∀ i, zlen (v i) ≤ 1048576) (hf : Z.Fin n v) : FnOK Tryz.prog false 143 [.c (nl n v), .c (.int .i64 i)] (.g (nz (v i))) := by
  have := at5_ok (i := (i : Int)) (wl_n hn h)
  rw [vz_n] at this
  have e : co v n (i : Int) = v i := by
    unfold co
    split
    · rw [show ((i : Nat) : Int).toNat = i by omega]
    · exact (hf i (by omega)).symm
  rwa [e] at this
set_option maxHeartbeats 4000000 in
theorem add5_ok {n m : Nat} {a b : Nat → Int} (hn : n ≤ 4096) (hm : m ≤ 4096) (fa : Z.Fin n a) (fb : Z.Fin m b) (la : ∀ i, zlen (a i) ≤ 524286) (lb : ∀ i, zlen (b i) ≤ 524286) : FnOK Tryz.prog false 107 [.c (nl n a), .c (nl m b)] (.c (nl (tl (fun i => a i + b i) (max n m)) fun i => a i + b i)) := by
  have a1 : ∀ i, FnOK Tryz.prog false 143 [.c (nl n a), .c (.int .i64 (i : Nat))] (.g (nz (a i))) := fun i => at5_n (by omega) (fun i => by have := la i; omega) fa
  have a2 : ∀ i, FnOK Tryz.prog false 143 [.c (nl m b), .c (.int .i64 (i : Nat))] (.g (nz (b i))) := fun i => at5_n (by omega) (fun i => by have := lb i; omega) fb
  have a3 : ∀ i, FnOK Tryz.prog false 86 [.g (nz (a i)), .g (nz (b i))] (.g (nz (a i + b i))) := fun i => zadd_n (by have := la i; omega) (by have := lb i; omega)
  have n0 := normal5_n (n := max n m) (v := fun i => a i + b i) (by omega) fun i => by
    have := zlen_add (a i) (b i)
    have := la i
    have := lb i
    show zlen (a i + b i) ≤ _
    omega
  clear fa fb la lb
  obtain ⟨C, hC⟩ : ∃ C : Nat → Int, C = fun i => a i + b i := ⟨_, rfl⟩
  have a4 : ∀ i, FnOK Tryz.prog false 86 [.g (nz (a i)), .g (nz (b i))] (.g (nz (C i))) := by rw [hC]; exact a3
  rw [← hC] at n0 ⊢
  clear hC a3
  have n1 : ∀ i, i = max n m → FnOK Tryz.prog false 103 [.c (nl i C)] (.c (nl (tl C (max n m)) C)) := fun i e => by rw [e]; exact n0
  clear n0
  refine fn_ok (E := E0) E0_ok Tryz.func107 rfl mixed (by kernel_rfl) (by kernel_rfl) ?_
  conv => whnf
  refine loop_ints (fun i : Nat => gst [(0, .c (nl n a)), (1, .c (nl m b)), (5, .c (.gs 0 0)), (6, .c (.int .i64 i))] [gz i C]) (fun i => max n m - i) (fun i => i ≤ max n m) 0 rfl (Weak.gen [none] rfl ⟨rfl, trivial⟩ ⟨.inl ⟨_, _, rfl, rfl, fun _ _ _ _ => rfl⟩, .inl ⟨_, _, rfl, rfl, fun _ _ _ _ => rfl⟩, rfl, ⟨_, rfl, rfl⟩, trivial⟩) (Nat.zero_le _) fun i hi => ?_
  have a1 := a1 i
  have a2 := a2 i
  have a4 := a4 i
  have n1 := n1 i
  have go : i < max n m → i + 1 ≤ 16777216 := fun _ => by omega
  conv => whnf
  refine bcase (fun (h : gw false (decide ((i : Int) < n)) = true) => ?_) fun (h : gw false (decide ((i : Int) < n)) = false) => ?_
  · have h := of_decide_eq_false (gwf h)
    conv => whnf
    refine bcase (fun (h2 : decide ((i : Int) < m) = true) => ?_) fun (h2 : decide ((i : Int) < m) = false) => ?_
    · have h2 := of_decide_eq_true h2
      conv => whnf
      refine ⟨_, a1, ?_⟩
      conv => whnf
      refine ⟨_, a2, ?_⟩
      conv => whnf
      refine ⟨_, a4, ?_⟩
      conv => whnf
      refine ⟨go (by omega), fun x y hx hy => one_nz (C i) _ x y hx hy, ?_⟩
      conv => whnf
      refine ⟨i64 (by omega) (by omega), ?_⟩
      conv => whnf
      refine ⟨i + 1, by omega, Weak.gen [some 0] rfl ⟨⟨_, rfl, rfl, rfl, rfl, rfl, fun x y hx hy => regE ?_ (zl_clos (c := fun i => ofZ (C i)) x y)⟩, trivial⟩ ⟨.inl ⟨_, _, rfl, rfl, fun _ _ _ _ => rfl⟩, .inl ⟨_, _, rfl, rfl, fun _ _ _ _ => rfl⟩, ⟨_, rfl, rfl, rfl⟩, ⟨_, rfl, rfl⟩, trivial⟩, by omega⟩
      exact appG (sz := 2) (g := fun k => nz (C k)) (g' := fun k => nz (C k)) (l := nz (C i)) (app_same (fun k => nz (C k)) i x) (Nat.le_refl (i + 1)) hx
    · have h2 := of_decide_eq_false h2
      have n1 := n1 (by omega)
      conv => whnf
      refine ⟨fun x y _ _ => zl_clos (c := fun i => ofZ (C i)) x y, ?_⟩
      conv => whnf
      refine ⟨_, n1, ?_⟩
      conv => whnf
      exact ⟨rfl, Sub.refl _⟩
  · have h := of_decide_eq_true (gwf' h)
    conv => whnf
    refine ⟨_, a1, ?_⟩
    conv => whnf
    refine ⟨_, a2, ?_⟩
    conv => whnf
    refine ⟨_, a4, ?_⟩
    conv => whnf
    refine ⟨go (by omega), fun x y hx hy => one_nz (C i) _ x y hx hy, ?_⟩
    conv => whnf
    refine ⟨i64 (by omega) (by omega), ?_⟩
    conv => whnf
    refine ⟨i + 1, by omega, Weak.gen [some 0] rfl ⟨⟨_, rfl, rfl, rfl, rfl, rfl, fun x y hx hy => regE ?_ (zl_clos (c := fun i => ofZ (C i)) x y)⟩, trivial⟩ ⟨.inl ⟨_, _, rfl, rfl, fun _ _ _ _ => rfl⟩, .inl ⟨_, _, rfl, rfl, fun _ _ _ _ => rfl⟩, ⟨_, rfl, rfl, rfl⟩, ⟨_, rfl, rfl⟩, trivial⟩, by omega⟩
    exact appG (sz := 2) (g := fun k => nz (C k)) (g' := fun k => nz (C k)) (l := nz (C i)) (app_same (fun k => nz (C k)) i x) (Nat.le_refl (i + 1)) hx
set_option maxHeartbeats 4000000 in
theorem scale5_ok {n : Nat} {a : Nat → Int} {c : Int} (hn : n ≤ 4096) (la : ∀ i, zlen (a i) ≤ 131070) (lc : zlen c ≤ 131070) : FnOK Tryz.prog false 109 [.c (nl n a), .g (nz c)] (.c (nl (tl (fun i => a i * c) n) fun i => a i * c)) := by
  have a3 : ∀ i, FnOK Tryz.prog false 87 [.g (nz (a i)), .g (nz c)] (.g (nz (a i * c))) := fun i => zmul_n (by have := la i; omega)
  have n0 := normal5_n (n := n) (v := fun i => a i * c) (by omega) fun i => by
    have := zlen_mul (a i) c
    have := la i
    show zlen (a i * c) ≤ _
    omega
  clear la lc
  obtain ⟨C, hC⟩ : ∃ C : Nat → Int, C = fun i => a i * c := ⟨_, rfl⟩
  have a4 : ∀ i, FnOK Tryz.prog false 87 [.g (nz (a i)), .g (nz c)] (.g (nz (C i))) := by rw [hC]; exact a3
  rw [← hC] at n0 ⊢
  clear hC a3
  have n1 : ∀ i, i = n → FnOK Tryz.prog false 103 [.c (nl i C)] (.c (nl (tl C n) C)) := fun i e => by rw [e]; exact n0
  clear n0
  refine fn_ok (E := E0) E0_ok Tryz.func109 rfl mixed (by kernel_rfl) (by kernel_rfl) ?_
  conv => whnf
  refine loop_ints (fun i : Nat => gst [(0, .c (nl n a)), (3, .c (.p 0 0 2 0 0)), (5, .c (.gs 1 0)), (6, .c (.int .i64 i))] [⟨61, 2, 1, boxF (nz c)⟩, gz i C]) (fun i => n - i) (fun i => i ≤ n) 0 rfl (Weak.gen [some 0, none] rfl ⟨boxK rfl rfl, rfl, trivial⟩ ⟨.inl ⟨_, _, rfl, rfl, fun _ _ _ _ => rfl⟩, ⟨_, rfl, rfl, rfl⟩, rfl, ⟨_, rfl, rfl⟩, trivial⟩) (Nat.zero_le _) fun i hi => ?_
  have a4 := a4 i
  have n1 := n1 i
  conv => whnf
  refine bcase (fun (h : decide ((i : Int) < n) = true) => ?_) fun (h : decide ((i : Int) < n) = false) => ?_
  · have h := of_decide_eq_true h
    conv => whnf
    refine ⟨by omega, by omega, ?_⟩
    conv => whnf
    refine ⟨_, a4, ?_⟩
    conv => whnf
    refine .inr ⟨rfl, ?_⟩
    conv => whnf
    refine ⟨by show i + 1 ≤ 16777216; omega, fun x y hx hy => one_nz (C i) _ x y hx hy, ?_⟩
    conv => whnf
    refine ⟨i64 (by omega) (by omega), ?_⟩
    conv => whnf
    refine ⟨i + 1, by omega, Weak.gen [some 0, some 1] rfl ⟨boxK rfl rfl, ⟨_, rfl, rfl, rfl, rfl, rfl, fun x y hx hy => regE ?_ (zl_clos (c := fun i => ofZ (C i)) x y)⟩, trivial⟩ ⟨.inl ⟨_, _, rfl, rfl, fun _ _ _ _ => rfl⟩, ⟨_, rfl, rfl, rfl⟩, ⟨_, rfl, rfl, rfl⟩, ⟨_, rfl, rfl⟩, trivial⟩, by omega⟩
    exact appG (sz := 2) (g := fun k => nz (C k)) (g' := fun k => nz (C k)) (l := nz (C i)) (app_same (fun k => nz (C k)) i x) (Nat.le_refl (i + 1)) hx
  · have h := of_decide_eq_false h
    have n1 := n1 (by omega)
    conv => whnf
    refine ⟨fun x y _ _ => zl_clos (c := fun i => ofZ (C i)) x y, ?_⟩
    conv => whnf
    refine ⟨_, n1, ?_⟩
    conv => whnf
    exact ⟨rfl, Sub.refl _⟩
set_option maxHeartbeats 4000000 in
theorem sub5_ok {n m : Nat} {a b : Nat → Int} (hn : n ≤ 4096) (hm : m ≤ 4096) (fa : Z.Fin n a) (fb : Z.Fin m b) (la : ∀ i, zlen (a i) ≤ 65535) (lb : ∀ i, zlen (b i) ≤ 65535) : FnOK Tryz.prog false 57 [.c (nl n a), .c (nl m b)] (.c (nl (tl (fun i => a i - b i) (max n m)) fun i => a i - b i)) := by
  have o1 := rof_ok (x := -1) (by decide) (by decide)
  have s1 := scale5_ok (n := m) (a := b) (c := -1) hm (fun i => by have := lb i; omega) (by decide)
  have f1 : Z.Fin m fun i => b i * -1 := fun k hk => by show b k * -1 = 0; rw [fb k hk]; rfl
  have tm := tl_le (fun i => b i * -1) m
  have f2 : Z.Fin (tl (fun i => b i * -1) m) fun i => b i * -1 := Z.tl_fin f1
  have a1 := add5_ok (n := n) (m := tl (fun i => b i * -1) m) (a := a) (b := fun i => b i * -1) hn (by omega) fa f2 (fun i => by have := la i; omega) fun i => by
    show zlen (b i * -1) ≤ _
    have := zlen_mul (b i) (-1)
    have : zlen (-1) = 1 := by decide
    have := lb i
    omega
  have e : (fun i => a i + b i * -1) = fun i => a i - b i := funext fun i => by omega
  rw [e] at a1
  have fs : Z.Fin (max n m) fun i => a i - b i := fun k hk => by
    show a k - b k = 0
    rw [fa k (by omega), fb k (by omega)]; rfl
  have fs' : Z.Fin (max n (tl (fun i => b i * -1) m)) fun i => a i - b i := fun k hk => by
    have h := f2 k (by omega)
    show a k - b k = 0
    have h : b k * -1 = 0 := h
    rw [fa k (by omega)]; omega
  rw [Z.tl_eq fs' fs] at a1
  clear f1 f2 fs fs' e fa fb la lb
  generalize tl (fun i => b i * -1) m = T at *
  refine fn_ok (E := E0) E0_ok Tryz.func57 rfl mixed (by kernel_rfl) (by kernel_rfl) ?_
  conv => whnf
  refine ⟨_, o1, ?_⟩
  conv => whnf
  refine ⟨_, s1, ?_⟩
  conv => whnf
  refine ⟨_, a1, ?_⟩
  conv => whnf
  exact ⟨rfl, Sub.refl _⟩
/-- The first i terms of a product's coefficient. -/
abbrev zfi (F G : Nat → Int) (k i : Nat) : Int := Z.su (fun a => F a * G (k - a)) i
set_option maxHeartbeats 8000000 in
theorem mul5_ok {n m : Nat} {F G : Nat → Int} (hF : Z.Fin n F) (hG : Z.Fin m G) (hn : n ≤ 1024) (hm : m ≤ 1024) (lF : ∀ i, zlen (F i) ≤ 65535) (lG : ∀ i, zlen (G i) ≤ 65535) (hs : ∀ k i, zlen (zfi F G k i) ≤ 131070) : FnOK Tryz.prog false 56 [.c (nl n F), .c (nl m G)] (.c (nl (tl (Z.cf F G) (n + m)) (Z.cf F G))) := by
  have s1 := normal5_n (n := n) (v := F) (by omega) fun i => by have := lF i; omega
  have s2 := normal5_n (n := m) (v := G) (by omega) fun i => by have := lG i; omega
  have f1 : Z.Fin (tl F n) F := Z.tl_fin hF
  have f2 : Z.Fin (tl G m) G := Z.tl_fin hG
  have l1 := tl_le F n
  have l2 := tl_le G m
  have fN : Z.Fin (n + m) (Z.cf F G) := (f1.cf f2).mono (by omega)
  generalize tl F n = a at *
  generalize tl G m = b at *
  have z1 : a = 0 → tl (Z.cf F G) (n + m) = 0 := fun e => Z.tl_zero (fun k => Z.su_zero fun i _ => by rw [f1 i (by omega), Int.zero_mul]) _
  have z2 : b = 0 → tl (Z.cf F G) (n + m) = 0 := fun e => Z.tl_zero (fun k => Z.su_zero fun i _ => by rw [f2 (k - i) (by omega), Int.mul_zero]) _
  have z3 : a ≠ 0 → b ≠ 0 → ∀ k, k = a + b - 1 → tl (Z.cf F G) k = tl (Z.cf F G) (n + m) := fun e1 e2 k e => Z.tl_eq (fun k hk => Z.su_zero fun i hi => by
    rcases Nat.lt_or_ge i a with c | c
    · rw [f2 (k - i) (by omega), Int.mul_zero]
    · rw [f1 i c, Int.zero_mul]) fN
  have s3 : ∀ k, k ≤ a + b → FnOK Tryz.prog false 103 [.c (nl k (Z.cf F G))] (.c (nl (tl (Z.cf F G) k) (Z.cf F G))) := fun k hk => normal5_n (by omega) fun i => by have h := hs i (i + 1); have h : zlen (Z.cf F G i) ≤ 131070 := h; omega
  have m0 : ∀ k i : Nat, FnOK Tryz.prog false 87 [.g (nz (F i)), .g (nz (G ((k : Int) - (i : Int)).toNat))] (.g (nz (F i * G (k - i)))) := fun k i => by
    rw [show ((k : Int) - (i : Int)).toNat = k - i by omega]
    exact zmul_n (by have := lF i; have := lG (k - i); omega)
  have a0 : ∀ k i, FnOK Tryz.prog false 86 [.g (nz (zfi F G k i)), .g (nz (F i * G (k - i)))] (.g (nz (zfi F G k (i + 1)))) := fun k i => zadd_n (by have := hs k i; omega) (by have := zlen_mul (F i) (G (k - i)); have := lF i; have := lG (k - i); omega)
  have e0 : ∀ k i, i ≤ k → (a ≤ i ∨ b ≤ k - i) → zfi F G k i = zfi F G k (i + 1) := fun k i _ h => by
    show _ = zfi F G k i + F i * G (k - i)
    rcases h with h | h
    · rw [f1 i h, Int.zero_mul, Int.add_zero]
    · rw [f2 (k - i) h, Int.mul_zero, Int.add_zero]
  have o0 := rof_ok (x := 0) (by decide) (by decide)
  obtain ⟨S, hS⟩ : ∃ S : Nat → Nat → Int, S = zfi F G := ⟨_, rfl⟩
  have hS1 : ∀ k, S k (k + 1) = Z.cf F G k := fun k => by rw [hS]; rfl
  have hS0 : ∀ k, S k 0 = 0 := fun k => by rw [hS]; rfl
  rw [← hS] at a0 e0
  clear hS hs lF lG hF hG f1 f2 fN
  generalize Z.cf F G = C at *
  refine fn_ok (E := E0) E0_ok Tryz.func56 rfl mixed (by kernel_rfl) (by kernel_rfl) ?_
  conv => whnf
  refine ⟨_, s1, ?_⟩
  conv => whnf
  refine ⟨_, s2, ?_⟩
  conv => whnf
  refine bcase (fun (h : gw false (decide ((a : Int) = 0)) = true) => ?_) fun (h : gw false (decide ((a : Int) = 0)) = false) => ?_
  · have h : a ≠ 0 := by have := of_decide_eq_false (gwf h); omega
    conv => whnf
    refine bcase (fun (h2 : decide ((b : Int) = 0) = true) => ?_) fun (h2 : decide ((b : Int) = 0) = false) => ?_
    · have h2 : b = 0 := by have := of_decide_eq_true h2; omega
      conv => whnf
      exact ⟨rfl, sub_nil0 (z2 h2)⟩
    have h2 : b ≠ 0 := by have := of_decide_eq_false h2; omega
    have z3 := z3 h h2
    conv => whnf
    refine loop_ints (fun k : Nat => gst [(5, .c (nl a F)), (6, .c (nl b G)), (7, .c (.gs 0 0)), (8, .c (.int .i64 k))] [gz k C]) (fun k => a + b - 1 - k) (fun k => k ≤ a + b - 1) 0 rfl (Weak.gen [none] rfl ⟨rfl, trivial⟩ ⟨.inl ⟨_, _, rfl, rfl, fun _ _ _ _ => rfl⟩, .inl ⟨_, _, rfl, rfl, fun _ _ _ _ => rfl⟩, rfl, ⟨_, rfl, rfl⟩, trivial⟩) (Nat.zero_le _) fun k hk => ?_
    have s3 := s3 k
    have z3 := z3 k
    have m0 := m0 k
    have a0 := a0 k
    have e0 := e0 k
    have hS1 := hS1 k
    have hS0 := hS0 k
    conv => whnf
    refine ⟨i64 (by omega) (by omega), ?_⟩
    conv => whnf
    refine ⟨i64 (by omega) (by omega), ?_⟩
    conv => whnf
    refine bcase (fun (h3 : decide ((k : Int) < (a : Int) + (b : Int) - 1) = true) => ?_) fun (h3 : decide ((k : Int) < (a : Int) + (b : Int) - 1) = false) => ?_
    · have h3 := of_decide_eq_true h3
      conv => whnf
      refine ⟨_, o0, ?_⟩
      conv => whnf
      refine loop_ints (fun i : Nat => gst [(5, .c (nl a F)), (6, .c (nl b G)), (7, .c (.gs 0 0)), (8, .c (.int .i64 k)), (9, .c (.p 1 0 2 0 0)), (10, .c (.int .i64 i))] [gz k C, ⟨61, 2, 1, boxF (nz (S k i))⟩]) (fun i => k + 1 - i) (fun i => i ≤ k + 1) 0 rfl (Weak.gen [some 0, some 1] rfl ⟨⟨_, rfl, rfl, rfl, rfl, rfl, fun x y hx hy => regE rfl (zl_clos (c := fun i => ofZ (C i)) x y)⟩, (by rw [hS0]; exact boxU rfl rfl rfl), trivial⟩ ⟨.inl ⟨_, _, rfl, rfl, fun _ _ _ _ => rfl⟩, .inl ⟨_, _, rfl, rfl, fun _ _ _ _ => rfl⟩, ⟨_, rfl, rfl, rfl⟩, ⟨_, rfl, rfl⟩, ⟨_, rfl, rfl, rfl⟩, ⟨_, rfl, rfl⟩, trivial⟩) (Nat.zero_le _) fun i hi => ?_
      have m0 := m0 i
      have a0 := a0 i
      have e0 := e0 i
      conv => whnf
      refine bcase (fun (h4 : decide ((i : Int) ≤ k) = true) => ?_) fun (h4 : decide ((i : Int) ≤ k) = false) => ?_
      · have h4 := of_decide_eq_true h4
        conv => whnf
        refine bcase (fun (h5 : gw true (decide ((i : Int) < a)) = true) => ?_) fun (h5 : gw true (decide ((i : Int) < a)) = false) => ?_
        · have h5 := of_decide_eq_true (gw_true.1 h5)
          conv => whnf
          refine ⟨i64 (by omega) (by omega), ?_⟩
          conv => whnf
          refine bcase (fun (h6 : decide ((k : Int) - (i : Int) < b) = true) => ?_) fun (h6 : decide ((k : Int) - (i : Int) < b) = false) => ?_
          · have h6 := of_decide_eq_true h6
            conv => whnf
            refine ⟨by omega, by omega, ?_⟩
            conv => whnf
            refine ⟨i64 (by omega) (by omega), ?_⟩
            conv => whnf
            refine ⟨by omega, by omega, ?_⟩
            conv => whnf
            refine ⟨_, m0, ?_⟩
            conv => whnf
            refine ⟨_, a0, ?_⟩
            conv => whnf
            refine ⟨i64 (by omega) (by omega), ?_⟩
            conv => whnf
            exact ⟨i + 1, by omega, Weak.gen [some 0, some 1] rfl ⟨⟨_, rfl, rfl, rfl, rfl, rfl, fun x y hx hy => regE rfl (zl_clos (c := fun i => ofZ (C i)) x y)⟩, boxU rfl rfl rfl, trivial⟩ ⟨.inl ⟨_, _, rfl, rfl, fun _ _ _ _ => rfl⟩, .inl ⟨_, _, rfl, rfl, fun _ _ _ _ => rfl⟩, ⟨_, rfl, rfl, rfl⟩, ⟨_, rfl, rfl⟩, ⟨_, rfl, rfl, rfl⟩, ⟨_, rfl, rfl⟩, trivial⟩, by omega⟩
          · have h6 := of_decide_eq_false h6
            have e0 := e0 (by omega) (.inr (by omega))
            conv => whnf
            refine ⟨i64 (by omega) (by omega), ?_⟩
            conv => whnf
            exact ⟨i + 1, by omega, Weak.gen [some 0, some 1] rfl ⟨⟨_, rfl, rfl, rfl, rfl, rfl, fun x y hx hy => regE rfl (zl_clos (c := fun i => ofZ (C i)) x y)⟩, (by rw [← e0]; exact boxK rfl rfl), trivial⟩ ⟨.inl ⟨_, _, rfl, rfl, fun _ _ _ _ => rfl⟩, .inl ⟨_, _, rfl, rfl, fun _ _ _ _ => rfl⟩, ⟨_, rfl, rfl, rfl⟩, ⟨_, rfl, rfl⟩, ⟨_, rfl, rfl, rfl⟩, ⟨_, rfl, rfl⟩, trivial⟩, by omega⟩
        · have h5 := of_decide_eq_false (gw_false.1 h5)
          have e0 := e0 (by omega) (.inl (by omega))
          conv => whnf
          refine ⟨i64 (by omega) (by omega), ?_⟩
          conv => whnf
          exact ⟨i + 1, by omega, Weak.gen [some 0, some 1] rfl ⟨⟨_, rfl, rfl, rfl, rfl, rfl, fun x y hx hy => regE rfl (zl_clos (c := fun i => ofZ (C i)) x y)⟩, (by rw [← e0]; exact boxK rfl rfl), trivial⟩ ⟨.inl ⟨_, _, rfl, rfl, fun _ _ _ _ => rfl⟩, .inl ⟨_, _, rfl, rfl, fun _ _ _ _ => rfl⟩, ⟨_, rfl, rfl, rfl⟩, ⟨_, rfl, rfl⟩, ⟨_, rfl, rfl, rfl⟩, ⟨_, rfl, rfl⟩, trivial⟩, by omega⟩
      · have h4 := of_decide_eq_false h4
        have ei : S k i = C k := by rw [show i = k + 1 by omega]; exact hS1
        conv => whnf
        refine ⟨by show k + 1 ≤ 16777216; omega, fun x y hx hy => one_nz (S k i) _ x y hx hy, ?_⟩
        conv => whnf
        refine ⟨i64 (by omega) (by omega), ?_⟩
        conv => whnf
        refine ⟨k + 1, by omega, Weak.gen [some 0] rfl ⟨⟨_, rfl, rfl, rfl, rfl, rfl, fun x y hx hy => regE ?_ (zl_clos (c := fun i => ofZ (C i)) x y)⟩, trivial⟩ ⟨.inl ⟨_, _, rfl, rfl, fun _ _ _ _ => rfl⟩, .inl ⟨_, _, rfl, rfl, fun _ _ _ _ => rfl⟩, ⟨_, rfl, rfl, rfl⟩, ⟨_, rfl, rfl⟩, trivial⟩, by omega⟩
        exact appG (sz := 2) (g := fun k => nz (C k)) (g' := fun k => nz (C k)) (l := nz (S k i)) (by rw [ei]; exact app_same (fun k => nz (C k)) k x) (Nat.le_refl (k + 1)) hx
    · have h3 := of_decide_eq_false h3
      have s3 := s3 (by omega)
      rw [z3 (by omega)] at s3
      conv => whnf
      refine ⟨fun x y _ _ => zl_clos (c := fun i => ofZ (C i)) x y, ?_⟩
      conv => whnf
      refine ⟨_, s3, ?_⟩
      conv => whnf
      exact ⟨rfl, Sub.refl _⟩
  · have h : a = 0 := by have := of_decide_eq_true (gwf' h); omega
    conv => whnf
    exact ⟨rfl, sub_nil0 (z1 h)⟩
set_option maxHeartbeats 4000000 in
theorem sameInts_n {n : Nat} {v : Nat → Int} (hn : n ≤ 4096) (h : ∀ i, zlen (v i) ≤ 524286) : FnOK Tryz.prog false 18 [.c (nl n v), .c (nl n v)] (.c (.bool true)) := by
  have s1 := fun i => sameInt_n (v i) (by have := h i; omega)
  clear h
  refine fn_ok (E := E0) E0_ok Tryz.func18 rfl mixed (by kernel_rfl) (by kernel_rfl) ?_
  conv => whnf
  refine bneg (show (!decide ((n : Int) = n)) = false by simp) ?_
  conv => whnf
  refine loop_ints (fun i : Nat => gst [(0, .c (nl n v)), (1, .c (nl n v)), (5, .c (.int .i64 i))] []) (fun i => n - i) (fun i => i ≤ n) 0 rfl (Weak.gen [] rfl trivial ⟨.inl ⟨_, _, rfl, rfl, fun _ _ _ _ => rfl⟩, .inl ⟨_, _, rfl, rfl, fun _ _ _ _ => rfl⟩, ⟨_, rfl, rfl⟩, trivial⟩) (Nat.zero_le _) fun i hi => ?_
  have s1 := s1 i
  conv => whnf
  refine bcase (fun (h : decide ((i : Int) < n) = true) => ?_) fun (h : decide ((i : Int) < n) = false) => ?_
  · have h := of_decide_eq_true h
    conv => whnf
    refine ⟨by omega, by omega, ?_⟩
    conv => whnf
    refine ⟨by omega, by omega, ?_⟩
    conv => whnf
    refine ⟨_, s1, ?_⟩
    conv => whnf
    refine ⟨i64 (by omega) (by omega), ?_⟩
    conv => whnf
    exact ⟨i + 1, by omega, Weak.gen [] rfl trivial ⟨.inl ⟨_, _, rfl, rfl, fun _ _ _ _ => rfl⟩, .inl ⟨_, _, rfl, rfl, fun _ _ _ _ => rfl⟩, ⟨_, rfl, rfl⟩, trivial⟩, by omega⟩
  · conv => whnf
    exact ⟨rfl, Sub.refl _⟩
end Rf
end Go.Proofs.YtigciplaoikcfaaGreat
/- The document's polynomials over the integers: shifts, division by a monic one. -/
namespace Go.Proofs.YtigciplaoikcfaaGreat
open Go.RowKit
namespace Z
/-- Moved up by k places. -/
def sh (k : Nat) (a : Nat → Int) (i : Nat) : Int := if i < k then 0 else a (i - k)
/-- One term. -/
def mo (c : Int) (k i : Nat) : Int := if i = k then c else 0
/-- The first k places; those from the place k on. -/
def lo (k : Nat) (q : Nat → Int) (i : Nat) : Int := if i < k then q i else 0
def hi (k : Nat) (q : Nat → Int) (i : Nat) : Int := if k ≤ i then q i else 0
theorem lo_fin (k : Nat) (q : Nat → Int) : Fin k (lo k q) := fun i hi => if_neg (by omega)
theorem mo_fin (c : Int) (k : Nat) : Fin (k + 1) (mo c k) := fun i hi => if_neg (by omega)
theorem sh_one (c : Int) (k : Nat) : sh k (fun i => if i = 0 then c else 0) = mo c k := funext fun i => by
  unfold sh mo
  by_cases h : i < k
  · rw [if_pos h, if_neg (by omega)]
  · rw [if_neg h]
    show (if i - k = 0 then c else 0) = _
    by_cases e : i = k
    · rw [if_pos (by omega), if_pos e]
    · rw [if_neg (by omega), if_neg e]
/-- The next place at which there is something. -/
theorem lo_next {k : Nat} {q : Nat → Int} : lo (tl q k) q = lo k q := funext fun i => by
  unfold lo
  by_cases h : i < tl q k
  · rw [if_pos h, if_pos (Nat.lt_of_lt_of_le h (tl_le q k))]
  · rw [if_neg h]
    split
    · rename_i h2
      exact (tl_behind (by omega) h2).symm
    · rfl
theorem lo_split (k : Nat) (q : Nat → Int) (i : Nat) : lo (k + 1) q i = lo k q i + mo (q k) k i := by
  unfold lo mo
  by_cases e : i = k
  · rw [if_pos (by omega), if_neg (by omega), if_pos e, e, Int.zero_add]
  · rw [if_neg e, Int.add_zero]
    by_cases h : i < k
    · rw [if_pos h, if_pos (by omega)]
    · rw [if_neg h, if_neg (by omega)]
theorem hi_next {k : Nat} {q : Nat → Int} : (fun i => hi (k + 1) q i + mo (q k) k i) = hi (tl q k) q := funext fun i => by
  have h1 := tl_le q k
  show hi (k + 1) q i + mo (q k) k i = _
  unfold hi mo
  by_cases e : i = k
  · rw [if_neg (by omega), if_pos e, if_pos (by omega), e, Int.zero_add]
  · rw [if_neg e, Int.add_zero]
    by_cases h : k + 1 ≤ i
    · rw [if_pos h, if_pos (by omega)]
    · rw [if_neg h]
      split
      · rename_i h2
        exact (tl_behind h2 (by omega)).symm
      · rfl
/-- A product of the first k places with a monic polynomial of degree d, and its length. -/
theorem part_fin {d k : Nat} {q b : Nat → Int} (fb : Fin (d + 1) b) : Fin (k + d) (cf (lo k q) b) := fun j hj => su_zero fun i hi => by
  rcases Nat.lt_or_ge i k with c | c
  · rw [fb (j - i) (by omega), Int.mul_zero]
  · rw [lo_fin k q i c, Int.zero_mul]
theorem part_top {d k : Nat} {q b : Nat → Int} (hb : Mon d b) (hk : 1 ≤ k) : cf (lo k q) b (k - 1 + d) = q (k - 1) := by
  rw [cf_top hb (by rw [show k - 1 + 1 = k by omega]; exact lo_fin k q)]
  exact if_pos (by omega)
theorem part_zero (q b : Nat → Int) (j : Nat) : cf (lo 0 q) b j = 0 := su_zero fun i _ => by
  rw [lo_fin 0 q i (Nat.zero_le i), Int.zero_mul]
theorem part_next {k : Nat} {q b : Nat → Int} : (fun j => cf (lo (k + 1) q) b j - cf (mo (q k) k) b j) = cf (lo (tl q k) q) b := funext fun j => by
  rw [cf_congr (fun i => lo_split k q i) (fun _ => rfl) j, cf_add_left, lo_next]
  omega
end Z
namespace Rf
theorem app_clos {k : Nat} {f g : Nat → Nat → Cell} (hf : ∀ x y, (f x y).clos = true) (hg : ∀ x y, (g x y).clos = true) (x y : Nat) : (appF k f g x y).clos = true := by
  unfold appF
  split
  · exact hf x y
  · exact hg _ y
set_option maxHeartbeats 4000000 in
theorem shift5_ok {n k : Nat} {a : Nat → Int} (hn : n ≤ 4096) (hk : k ≤ 4096) (h0 : 1 ≤ n) (ht : a (n - 1) ≠ 0) (fa : Z.Fin n a) (la : ∀ i, zlen (a i) ≤ 1048576) : FnOK Tryz.prog false 58 [.c (nl n a), .c (.int .i64 k)] (.c (nl (k + n) (Z.sh k a))) := by
  have n0 := normal5_n (n := n) (v := a) (by omega) la
  rw [Z.tl_is fa fa (.inr ht)] at n0
  have o0 := rof_ok (x := 0) (by decide) (by decide)
  have g : ∀ i, i = k → Sub (.c (.row 2 (i + n) (appF i (zlF fun _ => ofZ 0) (zlF fun j => ofZ (a j))))) (.c (nl (k + n) (Z.sh k a))) := fun i e => by
    subst e
    refine subRowG rfl fun x y hx hy => ?_
    unfold appF
    split
    · rename_i c
      exact zlF_eq (c := fun _ => ofZ 0) (e := fun j => ofZ (Z.sh i a j)) (by show ofZ 0 = ofZ (Z.sh i a x); rw [show Z.sh i a x = 0 from if_pos c])
    · rename_i c
      exact zlF_eq (c := fun j => ofZ (a j)) (e := fun j => ofZ (Z.sh i a j)) (by show ofZ (a (x - i)) = ofZ (Z.sh i a x); rw [show Z.sh i a x = a (x - i) from if_neg c])
  clear ht fa la
  refine fn_ok (E := E0) E0_ok Tryz.func58 rfl mixed (by kernel_rfl) (by kernel_rfl) ?_
  conv => whnf
  refine ⟨_, n0, ?_⟩
  conv => whnf
  refine bneg (show decide ((n : Int) = 0) = false from decide_eq_false (by omega)) ?_
  conv => whnf
  refine loop_ints (fun i : Nat => gst [(1, .c (.int .i64 k)), (5, .c (nl n a)), (6, .c (.gs 0 0)), (7, .c (.int .i64 i))] [gz i fun _ => 0]) (fun i => k - i) (fun i => i ≤ k) 0 rfl (Weak.gen [none] rfl ⟨rfl, trivial⟩ ⟨⟨_, rfl, rfl⟩, .inl ⟨_, _, rfl, rfl, fun _ _ _ _ => rfl⟩, rfl, ⟨_, rfl, rfl⟩, trivial⟩) (Nat.zero_le _) fun i hi => ?_
  have g := g i
  conv => whnf
  refine bcase (fun (h : decide ((i : Int) < k) = true) => ?_) fun (h : decide ((i : Int) < k) = false) => ?_
  · have h := of_decide_eq_true h
    conv => whnf
    refine ⟨_, o0, ?_⟩
    conv => whnf
    refine ⟨by show i + 1 ≤ 16777216; omega, fun x y hx hy => one_nz 0 _ x y hx hy, ?_⟩
    conv => whnf
    refine ⟨i64 (by omega) (by omega), ?_⟩
    conv => whnf
    refine ⟨i + 1, by omega, Weak.gen [some 0] rfl ⟨⟨_, rfl, rfl, rfl, rfl, rfl, fun x y hx hy => regE ?_ (zl_clos (c := fun _ => ofZ 0) x y)⟩, trivial⟩ ⟨⟨_, rfl, rfl⟩, .inl ⟨_, _, rfl, rfl, fun _ _ _ _ => rfl⟩, ⟨_, rfl, rfl, rfl⟩, ⟨_, rfl, rfl⟩, trivial⟩, by omega⟩
    exact appG (sz := 2) (g := fun _ => nz 0) (g' := fun _ => nz 0) (l := nz 0) (app_same (fun _ => nz 0) i x) (Nat.le_refl (i + 1)) hx
  · have h := of_decide_eq_false h
    have g := g (by omega)
    conv => whnf
    refine ⟨by show i + n ≤ 16777216; omega, fun x y hx hy => ?_, ?_⟩
    · match y, hy with
      | 0, _ => exact ⟨rfl, fun _ => rfl⟩
      | 1, _ => exact ⟨rfl, fun _ => rfl⟩
    conv => whnf
    refine ⟨fun x y _ _ => app_clos (fun x y => zl_clos (c := fun _ => ofZ 0) x y) (fun x y => zl_clos (c := fun j => ofZ (a j)) x y) x y, ?_⟩
    conv => whnf
    exact ⟨rfl, g⟩
theorem rowF_clos2 {x : Int} (i j : Nat) (hi : i < 1) (hj : j < 2) : (rowF 2 (nz x) i j).clos = true := by
  match i, j, hi, hj with
  | 0, 0, _, _ => rfl
  | 0, 1, _, _ => rfl
/-- Lengths on the way. -/
abbrev lenR (d k : Nat) : Nat := if k = 0 then 0 else k + d
abbrev lenQ (t k : Nat) : Nat := if k = t then 0 else t
set_option maxHeartbeats 8000000 in
theorem divide5_ok {d t : Nat} {q b : Nat → Int} (hd : d ≤ 1000) (ht : t ≤ 1000) (hb : Z.Mon d b) (fq : Z.Fin t q) (hq : t = 0 ∨ q (t - 1) ≠ 0) (lq : ∀ i, zlen (q i) ≤ 60000) (lb : ∀ i, zlen (b i) ≤ 60000) (lr : ∀ k j, zlen (Z.cf (Z.lo k q) b j) ≤ 60000) (lm : ∀ k j i, zlen (zfi (Z.mo (q k) k) b j i) ≤ 60000) : FnOK Tryz.prog false 54 [.c (nl (lenR d t) (Z.cf (Z.lo t q) b)), .c (nl (d + 1) b)] (.t2 (.c (nl t q)) (.c (.bool true))) := by
  have lb' : ∀ i, zlen (b i) ≤ 1048576 := fun i => by have := lb i; omega
  have tb : tl b (d + 1) = d + 1 := Z.tl_is hb.fin hb.fin (.inr (by rw [Nat.add_sub_cancel, hb.top]; decide))
  have fR : ∀ k, Z.Fin (lenR d k) (Z.cf (Z.lo k q) b) := fun k j hj => by
    by_cases e : k = 0
    · rw [e]; exact Z.part_zero q b j
    · exact Z.part_fin hb.fin j (by rw [show lenR d k = k + d from if_neg e] at hj; exact hj)
  have tR : ∀ k, (k = 0 ∨ q (k - 1) ≠ 0) → (lenR d k = 0 ∨ Z.cf (Z.lo k q) b (lenR d k - 1) ≠ 0) := fun k h => by
    rcases h with h | h
    · exact .inl (if_pos h)
    · by_cases e : k = 0
      · exact .inl (if_pos e)
      · refine .inr ?_
        rw [show lenR d k = k + d from if_neg e, show k + d - 1 = k - 1 + d by omega, Z.part_top hb (by omega)]
        exact h
  have n0 : FnOK Tryz.prog false 103 [.c (nl (lenR d t) (Z.cf (Z.lo t q) b))] (.c (nl (lenR d t) (Z.cf (Z.lo t q) b))) := by
    have hlen : lenR d t ≤ 1048576 := by unfold lenR; split <;> omega
    have h := normal5_n (n := lenR d t) (v := Z.cf (Z.lo t q) b) hlen fun i => by have := lr t i; omega
    rwa [Z.tl_is (fR t) (fR t) (tR t hq)] at h
  have d0 := degree5_n (n := d + 1) (v := b) (by omega) lb'
  rw [tb, show ((d + 1 : Nat) : Int) - 1 = (d : Int) by omega] at d0
  have l0 : FnOK Tryz.prog false 106 [.c (nl (d + 1) b)] (.g (nz 1)) := by
    have h := lead5_n (n := d + 1) (v := b) (by omega) lb'
    have e : ldc (d + 1) b = 1 := by
      show co b (d + 1) ((tl b (d + 1) : Nat) - 1) = 1
      rw [tb]
      unfold co
      rw [if_pos ⟨by omega, by omega⟩, show (((d + 1 : Nat) : Int) - 1).toNat = d by omega, hb.top]
    rwa [e] at h
  have g0 : FnOK Tryz.prog false 90 [.g (nz 0)] (.c (.int .i64 0)) := by
    have h := zsign_ok (a := ofZ 0) (wr_nz (by decide))
    rwa [ofZ_val] at h
  -- the round at a place k + 1 at which there is something
  have e0 : ∀ k, FnOK Tryz.prog false 105 [.g (nz (Z.cf (Z.lo (k + 1) q) b (((k + 1 + d : Nat) : Int) - 1).toNat)), .g (nz 1)] (.t2 (.g (nz (q k))) (.g (nz 0))) := fun k => by
    have e1 : Z.cf (Z.lo (k + 1) q) b (((k + 1 + d : Nat) : Int) - 1).toNat = q k := by
      rw [show (((k + 1 + d : Nat) : Int) - 1).toNat = k + 1 - 1 + d by omega]
      exact Z.part_top hb (by omega)
    rw [e1]
    have h := euclid_ok (a := ofZ (q k)) (b := ofZ 1) (wr_nz (by have := lq k; omega)) (wr_nz (by decide)) (by rw [ofZ_val]; have := lq k; omega) (by rw [ofZ_val]; decide) (by rw [ofZ_val]; decide)
    rw [ofZ_val, ofZ_val, Int.ediv_one, Int.emod_one] at h
    exact h
  have s0 : ∀ k, k + 1 ≤ t → q k ≠ 0 → FnOK Tryz.prog false 58 [.c (.row 2 1 (rowF 2 (nz (q k)))), .c (.int .i64 (((k + 1 + d : Nat) : Int) - 1 - (d : Int)))] (.c (nl (k + 1) (Z.mo (q k) k))) := fun k hk h => by
    have s := shift5_ok (n := 1) (k := k) (a := fun i => if i = 0 then q k else 0) (by omega) (by omega) (Nat.le_refl 1) h (fun i hi => if_neg (by omega)) fun i => by
      show zlen (if i = 0 then q k else 0) ≤ _
      split
      · have := lq k; omega
      · decide
    rw [Z.sh_one] at s
    rw [show ((k + 1 + d : Nat) : Int) - 1 - (d : Int) = (k : Nat) by omega]
    refine arg_ok s fun D w vs hh => ?_
    match vs, hh with
    | [x, y], ⟨h1, h2, _⟩ =>
      refine ⟨subRowG rfl (fun i j hi hj => ?_) D w x h1, h2, trivial⟩
      match i, j, hi, hj with
      | 0, 0, _, _ => rfl
      | 0, 1, _, _ => rfl
  have a0 : ∀ k, k + 1 ≤ t → q k ≠ 0 → FnOK Tryz.prog false 107 [.c (nl (lenQ t (k + 1)) (Z.hi (k + 1) q)), .c (nl (k + 1) (Z.mo (q k) k))] (.c (nl (lenQ t (tl q k)) (Z.hi (tl q k) q))) := fun k hk h => by
    have hle := tl_le q k
    have fh : ∀ j, Z.Fin t (Z.hi j q) := fun j i hi => by
      unfold Z.hi
      split
      · exact fq i hi
      · rfl
    have fk : Z.Fin (lenQ t (k + 1)) (Z.hi (k + 1) q) := fun i hi => by
      by_cases e : k + 1 = t
      · unfold Z.hi
        split
        · exact fq i (by omega)
        · rfl
      · exact fh _ i (by rw [show lenQ t (k + 1) = t from if_neg e] at hi; exact hi)
    have lh : ∀ j i, zlen (Z.hi j q i) ≤ 524286 := fun j i => by
      unfold Z.hi
      split
      · have := lq i; omega
      · decide
    have lmo : ∀ i, zlen (Z.mo (q k) k i) ≤ 524286 := fun i => by
      unfold Z.mo
      split
      · have := lq k; omega
      · decide
    have hb1 : lenQ t (k + 1) ≤ 4096 := by unfold lenQ; split <;> omega
    have s := add5_ok (n := lenQ t (k + 1)) (m := k + 1) hb1 (by omega) fk (Z.mo_fin (q k) k) (lh _) lmo
    rw [Z.hi_next] at s
    have e1 : tl (Z.hi (tl q k) q) (max (lenQ t (k + 1)) (k + 1)) = lenQ t (tl q k) := by
      have e2 : lenQ t (tl q k) = t := if_neg (by omega)
      rw [e2]
      refine Z.tl_is (fun i hi => ?_) (fh _) (.inr ?_)
      · by_cases e : k + 1 = t
        · exact fh _ i (by omega)
        · exact fh _ i (by have e3 : lenQ t (k + 1) = t := if_neg e; omega)
      · unfold Z.hi
        rw [if_pos (by omega)]
        rcases hq with h' | h'
        · omega
        · exact h'
    rwa [e1] at s
  have m0 : ∀ k, k + 1 ≤ t → FnOK Tryz.prog false 56 [.c (nl (k + 1) (Z.mo (q k) k)), .c (nl (d + 1) b)] (.c (nl (tl (Z.cf (Z.mo (q k) k) b) (k + 1 + (d + 1))) (Z.cf (Z.mo (q k) k) b))) := fun k hk =>
    mul5_ok (Z.mo_fin (q k) k) hb.fin (by omega) (by omega) (fun i => by
      unfold Z.mo
      split
      · have := lq k; omega
      · decide) (fun i => by have := lb i; omega) fun j i => by have := lm k j i; omega
  have u0 : ∀ k, k + 1 ≤ t → FnOK Tryz.prog false 57 [.c (nl (lenR d (k + 1)) (Z.cf (Z.lo (k + 1) q) b)), .c (nl (tl (Z.cf (Z.mo (q k) k) b) (k + 1 + (d + 1))) (Z.cf (Z.mo (q k) k) b))] (.c (nl (lenR d (tl q k)) (Z.cf (Z.lo (tl q k) q) b))) := fun k hk => by
    have hle := tl_le q k
    have hl := tl_le (Z.cf (Z.mo (q k) k) b) (k + 1 + (d + 1))
    have fm : Z.Fin (tl (Z.cf (Z.mo (q k) k) b) (k + 1 + (d + 1))) (Z.cf (Z.mo (q k) k) b) := Z.tl_fin ((Z.mo_fin (q k) k).cf hb.fin)
    have hk1 : lenR d (k + 1) ≤ 4096 := by unfold lenR; split <;> omega
    have s := sub5_ok (n := lenR d (k + 1)) (m := tl (Z.cf (Z.mo (q k) k) b) (k + 1 + (d + 1))) hk1 (by omega) (fR (k + 1)) fm (fun i => by have := lr (k + 1) i; omega) fun i => by have h := lm k i (i + 1); have h : zlen (Z.cf (Z.mo (q k) k) b i) ≤ 60000 := h; omega
    rw [Z.part_next] at s
    have e1 : tl (Z.cf (Z.lo (tl q k) q) b) (max (lenR d (k + 1)) (tl (Z.cf (Z.mo (q k) k) b) (k + 1 + (d + 1)))) = lenR d (tl q k) := by
      refine Z.tl_is (fun i hi => fR (tl q k) i ?_) (fR _) (tR _ ?_)
      · have e2 : lenR d (k + 1) = k + 1 + d := if_neg (by omega)
        unfold lenR
        split
        · omega
        · omega
      · rcases Nat.eq_zero_or_pos (tl q k) with e | e
        · exact .inl e
        · exact .inr (tl_top (n := k) (k := tl q k - 1) (by omega))
    rwa [e1] at s
  clear lq lb lb' lr lm fR tR tb
  obtain ⟨R, hR⟩ : ∃ R : Nat → Nat → Int, R = fun k => Z.cf (Z.lo k q) b := ⟨_, rfl⟩
  obtain ⟨G, hG⟩ : ∃ G : Nat → Nat → Int, G = fun k => Z.hi k q := ⟨_, rfl⟩
  have n1 : FnOK Tryz.prog false 103 [.c (nl (lenR d t) (Z.cf (Z.lo t q) b))] (.c (nl (lenR d t) (R t))) := by rw [hR]; exact n0
  have e1 : ∀ k, FnOK Tryz.prog false 105 [.g (nz (R (k + 1) (((k + 1 + d : Nat) : Int) - 1).toNat)), .g (nz 1)] (.t2 (.g (nz (q k))) (.g (nz 0))) := by rw [hR]; exact e0
  have a1 : ∀ k, k + 1 ≤ t → q k ≠ 0 → FnOK Tryz.prog false 107 [.c (nl (lenQ t (k + 1)) (G (k + 1))), .c (nl (k + 1) (Z.mo (q k) k))] (.c (nl (lenQ t (tl q k)) (G (tl q k)))) := by rw [hG]; exact a0
  have u1 : ∀ k, k + 1 ≤ t → FnOK Tryz.prog false 57 [.c (nl (lenR d (k + 1)) (R (k + 1))), .c (nl (tl (Z.cf (Z.mo (q k) k) b) (k + 1 + (d + 1))) (Z.cf (Z.mo (q k) k) b))] (.c (nl (lenR d (tl q k)) (R (tl q k)))) := by rw [hR]; exact u0
  have r1 : Sub (.t2 (.c (nl (lenQ t 0) (G 0))) (.c (.bool true))) (.t2 (.c (nl t q)) (.c (.bool true))) := by
    rintro D w v ⟨x, y, h1, h2, h3⟩
    refine ⟨x, y, h1, subRowG ?_ (fun i j hi _ => ?_) D w x h2, h3⟩
    · unfold lenQ
      split
      · rename_i e; exact e
      · rfl
    · rw [hG]
      exact zlF_eq (c := fun i => ofZ (Z.hi 0 q i)) (e := fun i => ofZ (q i)) (congrArg ofZ (if_pos (Nat.zero_le i)))
  have st0 : ∀ i j, i < lenQ t t → j < 2 → zlF (fun i => ofZ (G t i)) i j = zlF (fun i => ofZ (G t i)) i j := fun _ _ _ _ => rfl
  clear hR hG n0 e0 a0 u0 st0
  generalize Z.cf (Z.lo t q) b = A0 at *
  obtain ⟨M, hM⟩ : ∃ M : Nat → Nat → Int, M = fun k => Z.cf (Z.mo (q k) k) b := ⟨_, rfl⟩
  obtain ⟨lM, hlM⟩ : ∃ lM : Nat → Nat, lM = fun k => tl (Z.cf (Z.mo (q k) k) b) (k + 1 + (d + 1)) := ⟨_, rfl⟩
  have m1 : ∀ k, k + 1 ≤ t → FnOK Tryz.prog false 56 [.c (nl (k + 1) (Z.mo (q k) k)), .c (nl (d + 1) b)] (.c (nl (lM k) (M k))) := by rw [hM, hlM]; exact m0
  have u2 : ∀ k, k + 1 ≤ t → FnOK Tryz.prog false 57 [.c (nl (lenR d (k + 1)) (R (k + 1))), .c (nl (lM k) (M k))] (.c (nl (lenR d (tl q k)) (R (tl q k)))) := by rw [hM, hlM]; exact u1
  clear hM hlM m0 u1
  have hnext : ∀ k, tl q k = 0 ∨ q (tl q k - 1) ≠ 0 := fun k => by
    rcases Nat.eq_zero_or_pos (tl q k) with e | e
    · exact .inl e
    · exact .inr (tl_top (n := k) (k := tl q k - 1) (by omega))
  refine fn_ok (E := E0) E0_ok Tryz.func54 rfl mixed (by kernel_rfl) (by kernel_rfl) ?_
  conv => whnf
  refine ⟨_, n1, ?_⟩
  conv => whnf
  refine ⟨_, d0, ?_⟩
  conv => whnf
  refine loop_ints (fun k : Nat => gst [(1, .c (nl (d + 1) b)), (6, .c (nl (lenR d k) (R k))), (7, .c (.int .i64 d)), (8, .c (nl (lenQ t k) (G k)))] []) (fun k => k) (fun k => k ≤ t ∧ (k = 0 ∨ q (k - 1) ≠ 0)) t rfl (Weak.gen [] rfl trivial ⟨.inl ⟨_, _, rfl, rfl, fun _ _ _ _ => rfl⟩, .inl ⟨_, _, rfl, rfl, fun _ _ _ _ => rfl⟩, ⟨_, rfl, rfl⟩, .inr (.inl ⟨if_pos rfl, rfl⟩), trivial⟩) ⟨Nat.le_refl t, hq⟩ fun k ⟨hk, hqk⟩ => ?_
  rcases Nat.eq_zero_or_pos k with e | e
  · have r2 : Sub (.t2 (.c (nl (lenQ t k) (G k))) (.c (.bool true))) (.t2 (.c (nl t q)) (.c (.bool true))) := by rw [e]; exact r1
    have e2 : lenR d k = 0 := if_pos e
    have c1 : decide ((d : Int) ≤ ((lenR d k : Nat) : Int) - 1) = false := decide_eq_false (by omega)
    have c2 : decide (((lenR d k : Nat) : Int) = 0) = true := decide_eq_true (by omega)
    have hl : lenR d k ≤ 4096 := by omega
    have r3 : Sub (.t2 (.c (nl (lenQ t k) (G k))) (.c (.bool (decide (((lenR d k : Nat) : Int) = 0))))) (.t2 (.c (nl t q)) (.c (.bool true))) := by rw [c2]; exact r2
    clear e2 c2 r2
    generalize lenR d k = lr at *
    conv => whnf
    refine ⟨i64 (by omega) (by omega), ?_⟩
    conv => whnf
    refine bneg c1 ?_
    conv => whnf
    exact ⟨rfl, r3⟩
  · obtain ⟨j, rfl⟩ : ∃ j, k = j + 1 := ⟨k - 1, by omega⟩
    have hqj : q j ≠ 0 := by
      rcases hqk with h | h
      · omega
      · exact h
    have e1 := e1 j
    have s1 := s0 j hk hqj
    have a2 := a1 j hk hqj
    have m2 := m1 j hk
    have u3 := u2 j hk
    have hle := tl_le q j
    have hnx := hnext j
    have e2 : lenR d (j + 1) = j + 1 + d := if_neg (by omega)
    rw [e2] at u3 ⊢
    conv => whnf
    refine ⟨i64 (by omega) (by omega), ?_⟩
    conv => whnf
    refine bpos (show decide ((d : Int) ≤ ((j + 1 + d : Nat) : Int) - 1) = true from decide_eq_true (by omega)) ?_
    conv => whnf
    refine ⟨i64 (by omega) (by omega), ?_⟩
    conv => whnf
    refine ⟨by omega, by show ((j + 1 + d : Nat) : Int) - 1 < ((j + 1 + d : Nat) : Int); omega, ?_⟩
    conv => whnf
    refine ⟨_, l0, ?_⟩
    conv => whnf
    refine ⟨_, e1, ?_⟩
    conv => whnf
    refine ⟨_, g0, ?_⟩
    conv => whnf
    refine ⟨i64 (by omega) (by omega), ?_⟩
    conv => whnf
    refine ⟨i64 (by omega) (by omega), ?_⟩
    conv => whnf
    refine ⟨fun x y hx hy => rowF_clos2 x y hx hy, ?_⟩
    conv => whnf
    refine ⟨_, s1, ?_⟩
    conv => whnf
    refine ⟨_, a2, ?_⟩
    conv => whnf
    refine ⟨_, m2, ?_⟩
    conv => whnf
    refine ⟨_, u3, ?_⟩
    conv => whnf
    exact ⟨tl q j, by omega, Weak.gen [] rfl trivial ⟨.inl ⟨_, _, rfl, rfl, fun _ _ _ _ => rfl⟩, .inl ⟨_, _, rfl, rfl, fun _ _ _ _ => rfl⟩, ⟨_, rfl, rfl⟩, .inl ⟨_, _, rfl, rfl, fun _ _ _ _ => rfl⟩, trivial⟩, by omega, hnx⟩
end Rf
end Go.Proofs.YtigciplaoikcfaaGreat
