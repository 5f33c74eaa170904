/- Runs whose results are told cell by cell. -/
import Derived.Test.YtmbejakmeijcbaaGreatZt13
import Derived.Test.YtmbejakmeijcbaaGreatZt11
import Derived.Test.YtmbejakmeijcbaaGreatZt9
import Derived.Test.YtmbejakmeijcbaaGreatZt10
namespace Go.Proofs.YtmbejakmeijcbaaGreat
open Go.RowKit
def sameC : Cell → Cell → Bool
 | .bool a, .bool b => a == b
 | .int k a, .int l b => decide (k = l) && decide (a = b)
 | .nil, .nil => true
 | .nil, .row _ n _ => n == 0
 | .row sz n f, .row sz' n' f' => sz == sz' && (n == n' && ((List.range n).all fun i => (List.range sz).all fun j => sameC (f i j) (f' i j)))
 | _, _ => false
theorem sameC_ok (a : Cell) : ∀ (b : Cell), sameC a b = true → ∀ (D : Nat → Prop) (w : World) (v : Value), CRel D w [] a v → CRel D w [] b v := by
 induction a with
 | bool a =>
  intro b h D w v hv
  cases b with
  | bool b => simp [sameC] at h; subst h; exact hv
  | _ => simp [sameC] at h
 | int k a =>
  intro b h D w v hv
  cases b with
  | int l b => simp [sameC] at h; obtain ⟨rfl, rfl⟩ := h; exact hv
  | _ => simp [sameC] at h
 | nil =>
  intro b h D w v hv
  cases b with
  | nil => exact hv
  | row sz n f =>
   have h : n = 0 := by simpa [sameC] using h
   subst h
   have hv : v = .slice none 0 0 := hv
   exact ⟨none, 0, hv, Nat.le_refl _, fun h => absurd h (Nat.lt_irrefl 0)⟩
  | _ => simp [sameC] at h
 | row sz n f ih =>
  intro b h D w v hv
  cases b with
  | row sz' n' f' =>
   simp only [sameC, Bool.and_eq_true, beq_iff_eq, List.all_eq_true, List.mem_range] at h
   obtain ⟨rfl, rfl, h⟩ := h
   obtain ⟨A, c, e1, e2, e3⟩ := hv
   refine ⟨A, c, e1, e2, fun hn => ?_⟩
   obtain ⟨b, o, g1, g2, g3, g4⟩ := e3 hn
   refine ⟨b, o, g1, g2, g3, fun i j hi hj => ?_⟩
   obtain ⟨u, hu, hr⟩ := g4 i j hi hj
   exact ⟨u, hu, ih i j (f' i j) (h i hi j hj) D w u hr⟩
  | _ => simp [sameC] at h
 | _ => intro b h; cases b <;> simp [sameC] at h
def sameL : List Cell → List Cell → Bool
 | [], [] => true
 | a :: l, b :: l' => sameC a b && sameL l l'
 | _, _ => false
def sameV : V → V → Bool
 | .c a, .c b => sameC a b
 | .g l, .g l' => sameL l l'
 | .t2 a b, .t2 c d => sameV a c && sameV b d
 | _, _ => false
theorem sameL_ok : ∀ (l l' : List Cell), sameL l l' = true → ∀ (D : Nat → Prop) (w : World) (vs : List Value), CRels D w [] l vs → CRels D w [] l' vs
 | [], [], _, _, _, _, hv => hv
 | a :: l, b :: l', h, D, w, v :: vs, hv => by
  simp only [sameL, Bool.and_eq_true] at h
  exact ⟨sameC_ok a b h.1 D w v hv.1, sameL_ok l l' h.2 D w vs hv.2⟩
 | [], _ :: _, h, _, _, _, _ => by simp [sameL] at h
 | _ :: _, [], h, _, _, _, _ => by simp [sameL] at h
 | _ :: _, _ :: _, _, _, _, [], hv => hv.elim
theorem sameV_ok : ∀ (a b : V), sameV a b = true → ∀ (D : Nat → Prop) (w : World) (v : Value), VRel D w [] a v → VRel D w [] b v
 | .c a, .c b, h, D, w, v, hv => sameC_ok a b h D w v hv
 | .g l, .g l', h, D, w, v, hv => by
  obtain ⟨vs, h1, h2⟩ := hv
  exact ⟨vs, h1, sameL_ok l l' h D w _ h2⟩
 | .t2 a b, .t2 c d, h, D, w, v, hv => by
  simp only [sameV, Bool.and_eq_true] at h
  obtain ⟨x, y, h1, h2, h3⟩ := hv
  exact ⟨x, y, h1, sameV_ok a c h.1 D w x h2, sameV_ok b d h.2 D w y h3⟩
 | .c _, .g _, h, _, _, _, _ => by simp [sameV] at h
 | .c _, .t2 .., h, _, _, _, _ => by simp [sameV] at h
 | .c _, .t3 .., h, _, _, _, _ => by simp [sameV] at h
 | .c _, .t4 .., h, _, _, _, _ => by simp [sameV] at h
 | .g _, .c _, h, _, _, _, _ => by simp [sameV] at h
 | .g _, .t2 .., h, _, _, _, _ => by simp [sameV] at h
 | .g _, .t3 .., h, _, _, _, _ => by simp [sameV] at h
 | .g _, .t4 .., h, _, _, _, _ => by simp [sameV] at h
 | .t2 .., .c _, h, _, _, _, _ => by simp [sameV] at h
 | .t2 .., .g _, h, _, _, _, _ => by simp [sameV] at h
 | .t2 .., .t3 .., h, _, _, _, _ => by simp [sameV] at h
 | .t2 .., .t4 .., h, _, _, _, _ => by simp [sameV] at h
 | .t3 .., _, h, _, _, _, _ => by simp [sameV] at h
 | .t4 .., _, h, _, _, _, _ => by simp [sameV] at h
theorem run_same {inl : FuncId → Bool} {f : FuncId} {args : List V} {Y : V} (h : (pureX orcC (runX ER orcC okF inl 1000 40) f args).map (fun X => sameV X Y) = some true) : FnOK Tryz.prog false f args Y := by
 cases hx : pureX orcC (runX ER orcC okF inl 1000 40) f args with
 | none => rw [hx] at h; cases h
 | some X =>
  rw [hx] at h
  have h : sameV X Y = true := by simpa using h
  have hf := run_call orcC_ok hx
  refine ⟨hf.1, fun D w vs h1 h2 h3 => (hf.2 D w vs h1 h2 h3).mono ?_⟩
  rintro e w' ⟨v, h4, h5, h6⟩
  exact ⟨v, h4, sameV_ok X Y h D w' v h5, h6⟩
end Go.Proofs.YtmbejakmeijcbaaGreat
/- The document's polynomials over the integers: sums, multiples, products, shifts; the same as themselves. -/
namespace Go.Proofs.YtmbejakmeijcbaaGreat
open Go.RowKit
namespace Rf
theorem one_nz {bl : List Blk} (x : Int) (r : Bool) (i j : Nat) (hi : i < 1) (hj : j < 2) : St.one bl (rowF 2 (nz x) i j) = true ∧ (r = true → (rowF 2 (nz x) i j).noU = true) := by
 match i, j, hi, hj with
 | 0, 0, _, _ => exact ⟨rfl, fun _ => rfl⟩
 | 0, 1, _, _ => exact ⟨rfl, fun _ => rfl⟩
theorem zadd_n {x y : Int} (h : zlen x ≤ 1048575) (h' : zlen y ≤ 1048575) : FnOK Tryz.prog false 122 [.g (nz x), .g (nz y)] (.g (nz (x + y))) := by
 have := zadd_ok (a := ofZ x) (b := ofZ y) (wr_nz (by omega)) (wr_nz (by omega)) (by rw [ofZ_val]; exact h) (by rw [ofZ_val]; exact h')
 rwa [ofZ_val, ofZ_val] at this
theorem wl_n {n : Nat} {v : Nat → Int} (hn : n ≤ 1048576) (h : ∀ i, zlen (v i) ≤ 1048576) : wl n fun i => ofZ (v i) := ⟨hn, fun i _ => wr_nz (h i)⟩
theorem vz_n (v : Nat → Int) : vz (fun i => ofZ (v i)) = v := funext fun i => ofZ_val (v i)
theorem normal5_n {n : Nat} {v : Nat → Int} (hn : n ≤ 1048576) (h : ∀ i, zlen (v i) ≤ 1048576) : FnOK Tryz.prog false 114 [.c (nl n v)] (.c (nl (tl v n) v)) := by
 have := normal5_ok (wl_n hn h)
 rwa [vz_n] at this
theorem degree5_n {n : Nat} {v : Nat → Int} (hn : n ≤ 1048576) (h : ∀ i, zlen (v i) ≤ 1048576) : FnOK Tryz.prog false 115 [.c (nl n v)] (.c (.int .i64 ((tl v n : Nat) - 1))) := by
 have := degree5_ok (wl_n hn h)
 rwa [vz_n] at this
theorem lead5_n {n : Nat} {v : Nat → Int} (hn : n ≤ 1048576) (h : ∀ i, zlen (v i) ≤ 1048576) : FnOK Tryz.prog false 117 [.c (nl n v)] (.g (nz (ldc n v))) := by
 have := lead5_ok (wl_n hn h)
 rwa [vz_n] at this
theorem at5_n {n i : Nat} {v : Nat → Int} (hn : n ≤ 1048576) (h : ∀ i, zlen (v i) ≤ 1048576) (hf : Z.Fin n v) : FnOK Tryz.prog false 151 [.c (nl n v), .c (.int .i64 i)] (.g (nz (v i))) := by
 have := at5_ok (i := (i : Int)) (wl_n hn h)
 rw [vz_n] at this
 have e : co v n (i : Int) = v i := by
  unfold co
  split
  ·rw [show ((i : Nat) : Int).toNat = i by omega]
  ·exact (hf i (by omega)).symm
 rwa [e] at this
set_option maxHeartbeats 4000000 in
theorem add5_ok {n m : Nat} {a b : Nat → Int} (hn : n ≤ 4096) (hm : m ≤ 4096) (fa : Z.Fin n a) (fb : Z.Fin m b) (la : ∀ i, zlen (a i) ≤ 524286) (lb : ∀ i, zlen (b i) ≤ 524286) : FnOK Tryz.prog false 118 [.c (nl n a), .c (nl m b)] (.c (nl (tl (fun i => a i + b i) (max n m)) fun i => a i + b i)) := by
 have a1 : ∀ i, FnOK Tryz.prog false 151 [.c (nl n a), .c (.int .i64 (i : Nat))] (.g (nz (a i))) := fun i => at5_n (by omega) (fun i => by have := la i; omega) fa
 have a2 : ∀ i, FnOK Tryz.prog false 151 [.c (nl m b), .c (.int .i64 (i : Nat))] (.g (nz (b i))) := fun i => at5_n (by omega) (fun i => by have := lb i; omega) fb
 have a3 : ∀ i, FnOK Tryz.prog false 122 [.g (nz (a i)), .g (nz (b i))] (.g (nz (a i + b i))) := fun i => zadd_n (by have := la i; omega) (by have := lb i; omega)
 have n0 := normal5_n (n := max n m) (v := fun i => a i + b i) (by omega) fun i => by
  have := zlen_add (a i) (b i)
  have := la i
  have := lb i
  show zlen (a i + b i) ≤ _
  omega
 clear fa fb la lb
 obtain ⟨C, hC⟩ : ∃ C : Nat → Int, C = fun i => a i + b i := ⟨_, rfl⟩
 have a4 : ∀ i, FnOK Tryz.prog false 122 [.g (nz (a i)), .g (nz (b i))] (.g (nz (C i))) := by rw [hC]; exact a3
 rw [← hC] at n0 ⊢
 clear hC a3
 have n1 : ∀ i, i = max n m → FnOK Tryz.prog false 114 [.c (nl i C)] (.c (nl (tl C (max n m)) C)) := fun i e => by rw [e]; exact n0
 clear n0
 refine fn_ok (E := E0) E0_ok Tryz.func118 rfl mixed (by kernel_rfl) (by kernel_rfl) ?_
 conv => whnf
 refine loop_ints (fun i : Nat => gst [(0, .c (nl n a)), (1, .c (nl m b)), (5, .c (.gs 0 0)), (6, .c (.int .i64 i))] [gz i C]) (fun i => max n m - i) (fun i => i ≤ max n m) 0 rfl (Weak.gen [none] rfl ⟨rfl, trivial⟩ ⟨.inl ⟨_, _, rfl, rfl, fun _ _ _ _ => rfl⟩, .inl ⟨_, _, rfl, rfl, fun _ _ _ _ => rfl⟩, rfl, ⟨_, rfl, rfl⟩, trivial⟩) (Nat.zero_le _) fun i hi => ?_
 have a1 := a1 i
 have a2 := a2 i
 have a4 := a4 i
 have n1 := n1 i
 have go : i < max n m → i + 1 ≤ 16777216 := fun _ => by omega
 conv => whnf
 refine bcase (fun (h : gw false (decide ((i : Int) < n)) = true) => ?_) fun (h : gw false (decide ((i : Int) < n)) = false) => ?_
 ·have h := of_decide_eq_false (gwf h)
  conv => whnf
  refine bcase (fun (h2 : decide ((i : Int) < m) = true) => ?_) fun (h2 : decide ((i : Int) < m) = false) => ?_
  ·have h2 := of_decide_eq_true h2
   conv => whnf
   refine ⟨_, a1, ?_⟩
   conv => whnf
   refine ⟨_, a2, ?_⟩
   conv => whnf
   refine ⟨_, a4, ?_⟩
   conv => whnf
   refine ⟨go (by omega), fun x y hx hy => one_nz (C i) _ x y hx hy, ?_⟩
   conv => whnf
   refine ⟨i64 (by omega) (by omega), ?_⟩
   conv => whnf
   refine ⟨i + 1, by omega, Weak.gen [some 0] rfl ⟨⟨_, rfl, rfl, rfl, rfl, rfl, fun x y hx hy => regE ?_ (zl_clos (c := fun i => ofZ (C i)) x y)⟩, trivial⟩ ⟨.inl ⟨_, _, rfl, rfl, fun _ _ _ _ => rfl⟩, .inl ⟨_, _, rfl, rfl, fun _ _ _ _ => rfl⟩, ⟨_, rfl, rfl, rfl⟩, ⟨_, rfl, rfl⟩, trivial⟩, by omega⟩
   exact appG (sz := 2) (g := fun k => nz (C k)) (g' := fun k => nz (C k)) (l := nz (C i)) (app_same (fun k => nz (C k)) i x) (Nat.le_refl (i + 1)) hx
  ·have h2 := of_decide_eq_false h2
   have n1 := n1 (by omega)
   conv => whnf
   refine ⟨fun x y _ _ => zl_clos (c := fun i => ofZ (C i)) x y, ?_⟩
   conv => whnf
   refine ⟨_, n1, ?_⟩
   conv => whnf
   exact ⟨rfl, Sub.refl _⟩
 ·have h := of_decide_eq_true (gwf' h)
  conv => whnf
  refine ⟨_, a1, ?_⟩
  conv => whnf
  refine ⟨_, a2, ?_⟩
  conv => whnf
  refine ⟨_, a4, ?_⟩
  conv => whnf
  refine ⟨go (by omega), fun x y hx hy => one_nz (C i) _ x y hx hy, ?_⟩
  conv => whnf
  refine ⟨i64 (by omega) (by omega), ?_⟩
  conv => whnf
  refine ⟨i + 1, by omega, Weak.gen [some 0] rfl ⟨⟨_, rfl, rfl, rfl, rfl, rfl, fun x y hx hy => regE ?_ (zl_clos (c := fun i => ofZ (C i)) x y)⟩, trivial⟩ ⟨.inl ⟨_, _, rfl, rfl, fun _ _ _ _ => rfl⟩, .inl ⟨_, _, rfl, rfl, fun _ _ _ _ => rfl⟩, ⟨_, rfl, rfl, rfl⟩, ⟨_, rfl, rfl⟩, trivial⟩, by omega⟩
  exact appG (sz := 2) (g := fun k => nz (C k)) (g' := fun k => nz (C k)) (l := nz (C i)) (app_same (fun k => nz (C k)) i x) (Nat.le_refl (i + 1)) hx
set_option maxHeartbeats 4000000 in
theorem scale5_ok {n : Nat} {a : Nat → Int} {c : Int} (hn : n ≤ 4096) (la : ∀ i, zlen (a i) ≤ 131070) (lc : zlen c ≤ 131070) : FnOK Tryz.prog false 146 [.c (nl n a), .g (nz c)] (.c (nl (tl (fun i => a i * c) n) fun i => a i * c)) := by
 have a3 : ∀ i, FnOK Tryz.prog false 123 [.g (nz (a i)), .g (nz c)] (.g (nz (a i * c))) := fun i => zmul_n (by have := la i; omega)
 have n0 := normal5_n (n := n) (v := fun i => a i * c) (by omega) fun i => by
  have := zlen_mul (a i) c
  have := la i
  show zlen (a i * c) ≤ _
  omega
 clear la lc
 obtain ⟨C, hC⟩ : ∃ C : Nat → Int, C = fun i => a i * c := ⟨_, rfl⟩
 have a4 : ∀ i, FnOK Tryz.prog false 123 [.g (nz (a i)), .g (nz c)] (.g (nz (C i))) := by rw [hC]; exact a3
 rw [← hC] at n0 ⊢
 clear hC a3
 have n1 : ∀ i, i = n → FnOK Tryz.prog false 114 [.c (nl i C)] (.c (nl (tl C n) C)) := fun i e => by rw [e]; exact n0
 clear n0
 refine fn_ok (E := E0) E0_ok Tryz.func146 rfl mixed (by kernel_rfl) (by kernel_rfl) ?_
 conv => whnf
 refine loop_ints (fun i : Nat => gst [(0, .c (nl n a)), (3, .c (.p 0 0 2 0 0)), (5, .c (.gs 1 0)), (6, .c (.int .i64 i))] [⟨44, 2, 1, boxF (nz c)⟩, gz i C]) (fun i => n - i) (fun i => i ≤ n) 0 rfl (Weak.gen [some 0, none] rfl ⟨boxK rfl rfl, rfl, trivial⟩ ⟨.inl ⟨_, _, rfl, rfl, fun _ _ _ _ => rfl⟩, ⟨_, rfl, rfl, rfl⟩, rfl, ⟨_, rfl, rfl⟩, trivial⟩) (Nat.zero_le _) fun i hi => ?_
 have a4 := a4 i
 have n1 := n1 i
 conv => whnf
 refine bcase (fun (h : decide ((i : Int) < n) = true) => ?_) fun (h : decide ((i : Int) < n) = false) => ?_
 ·have h := of_decide_eq_true h
  conv => whnf
  refine ⟨by omega, by omega, ?_⟩
  conv => whnf
  refine ⟨_, a4, ?_⟩
  conv => whnf
  refine .inr ⟨rfl, ?_⟩
  conv => whnf
  refine ⟨by show i + 1 ≤ 16777216; omega, fun x y hx hy => one_nz (C i) _ x y hx hy, ?_⟩
  conv => whnf
  refine ⟨i64 (by omega) (by omega), ?_⟩
  conv => whnf
  refine ⟨i + 1, by omega, Weak.gen [some 0, some 1] rfl ⟨boxK rfl rfl, ⟨_, rfl, rfl, rfl, rfl, rfl, fun x y hx hy => regE ?_ (zl_clos (c := fun i => ofZ (C i)) x y)⟩, trivial⟩ ⟨.inl ⟨_, _, rfl, rfl, fun _ _ _ _ => rfl⟩, ⟨_, rfl, rfl, rfl⟩, ⟨_, rfl, rfl, rfl⟩, ⟨_, rfl, rfl⟩, trivial⟩, by omega⟩
  exact appG (sz := 2) (g := fun k => nz (C k)) (g' := fun k => nz (C k)) (l := nz (C i)) (app_same (fun k => nz (C k)) i x) (Nat.le_refl (i + 1)) hx
 ·have h := of_decide_eq_false h
  have n1 := n1 (by omega)
  conv => whnf
  refine ⟨fun x y _ _ => zl_clos (c := fun i => ofZ (C i)) x y, ?_⟩
  conv => whnf
  refine ⟨_, n1, ?_⟩
  conv => whnf
  exact ⟨rfl, Sub.refl _⟩
set_option maxHeartbeats 4000000 in
theorem sub5_ok {n m : Nat} {a b : Nat → Int} (hn : n ≤ 4096) (hm : m ≤ 4096) (fa : Z.Fin n a) (fb : Z.Fin m b) (la : ∀ i, zlen (a i) ≤ 65535) (lb : ∀ i, zlen (b i) ≤ 65535) : FnOK Tryz.prog false 111 [.c (nl n a), .c (nl m b)] (.c (nl (tl (fun i => a i - b i) (max n m)) fun i => a i - b i)) := by
 have o1 := rof_ok (x := -1) (by decide) (by decide)
 have s1 := scale5_ok (n := m) (a := b) (c := -1) hm (fun i => by have := lb i; omega) (by decide)
 have f1 : Z.Fin m fun i => b i * -1 := fun k hk => by show b k * -1 = 0; rw [fb k hk]; rfl
 have tm := tl_le (fun i => b i * -1) m
 have f2 : Z.Fin (tl (fun i => b i * -1) m) fun i => b i * -1 := Z.tl_fin f1
 have a1 := add5_ok (n := n) (m := tl (fun i => b i * -1) m) (a := a) (b := fun i => b i * -1) hn (by omega) fa f2 (fun i => by have := la i; omega) fun i => by
  show zlen (b i * -1) ≤ _
  have := zlen_mul (b i) (-1)
  have : zlen (-1) = 1 := by decide
  have := lb i
  omega
 have e : (fun i => a i + b i * -1) = fun i => a i - b i := funext fun i => by omega
 rw [e] at a1
 have fs : Z.Fin (max n m) fun i => a i - b i := fun k hk => by
  show a k - b k = 0
  rw [fa k (by omega), fb k (by omega)]; rfl
 have fs' : Z.Fin (max n (tl (fun i => b i * -1) m)) fun i => a i - b i := fun k hk => by
  have h := f2 k (by omega)
  show a k - b k = 0
  have h : b k * -1 = 0 := h
  rw [fa k (by omega)]; omega
 rw [Z.tl_eq fs' fs] at a1
 clear f1 f2 fs fs' e fa fb la lb
 generalize tl (fun i => b i * -1) m = T at *
 refine fn_ok (E := E0) E0_ok Tryz.func111 rfl mixed (by kernel_rfl) (by kernel_rfl) ?_
 conv => whnf
 refine ⟨_, o1, ?_⟩
 conv => whnf
 refine ⟨_, s1, ?_⟩
 conv => whnf
 refine ⟨_, a1, ?_⟩
 conv => whnf
 exact ⟨rfl, Sub.refl _⟩
abbrev zfi (F G : Nat → Int) (k i : Nat) : Int := Z.su (fun a => F a * G (k - a)) i
set_option maxHeartbeats 8000000 in
theorem mul5_ok {n m : Nat} {F G : Nat → Int} (hF : Z.Fin n F) (hG : Z.Fin m G) (hn : n ≤ 1024) (hm : m ≤ 1024) (lF : ∀ i, zlen (F i) ≤ 65535) (lG : ∀ i, zlen (G i) ≤ 65535) (hs : ∀ k i, zlen (zfi F G k i) ≤ 131070) : FnOK Tryz.prog false 119 [.c (nl n F), .c (nl m G)] (.c (nl (tl (Z.cf F G) (n + m)) (Z.cf F G))) := by
 have s1 := normal5_n (n := n) (v := F) (by omega) fun i => by have := lF i; omega
 have s2 := normal5_n (n := m) (v := G) (by omega) fun i => by have := lG i; omega
 have f1 : Z.Fin (tl F n) F := Z.tl_fin hF
 have f2 : Z.Fin (tl G m) G := Z.tl_fin hG
 have l1 := tl_le F n
 have l2 := tl_le G m
 have fN : Z.Fin (n + m) (Z.cf F G) := (f1.cf f2).mono (by omega)
 generalize tl F n = a at *
 generalize tl G m = b at *
 have z1 : a = 0 → tl (Z.cf F G) (n + m) = 0 := fun e => Z.tl_zero (fun k => Z.su_zero fun i _ => by rw [f1 i (by omega), Int.zero_mul]) _
 have z2 : b = 0 → tl (Z.cf F G) (n + m) = 0 := fun e => Z.tl_zero (fun k => Z.su_zero fun i _ => by rw [f2 (k - i) (by omega), Int.mul_zero]) _
 have z3 : a ≠ 0 → b ≠ 0 → ∀ k, k = a + b - 1 → tl (Z.cf F G) k = tl (Z.cf F G) (n + m) := fun e1 e2 k e => Z.tl_eq (fun k hk => Z.su_zero fun i hi => by
  rcases Nat.lt_or_ge i a with c | c
  ·rw [f2 (k - i) (by omega), Int.mul_zero]
  ·rw [f1 i c, Int.zero_mul]) fN
 have s3 : ∀ k, k ≤ a + b → FnOK Tryz.prog false 114 [.c (nl k (Z.cf F G))] (.c (nl (tl (Z.cf F G) k) (Z.cf F G))) := fun k hk => normal5_n (by omega) fun i => by have h := hs i (i + 1); have h : zlen (Z.cf F G i) ≤ 131070 := h; omega
 have m0 : ∀ k i : Nat, FnOK Tryz.prog false 123 [.g (nz (F i)), .g (nz (G ((k : Int) - (i : Int)).toNat))] (.g (nz (F i * G (k - i)))) := fun k i => by
  rw [show ((k : Int) - (i : Int)).toNat = k - i by omega]
  exact zmul_n (by have := lF i; have := lG (k - i); omega)
 have a0 : ∀ k i, FnOK Tryz.prog false 122 [.g (nz (zfi F G k i)), .g (nz (F i * G (k - i)))] (.g (nz (zfi F G k (i + 1)))) := fun k i => zadd_n (by have := hs k i; omega) (by have := zlen_mul (F i) (G (k - i)); have := lF i; have := lG (k - i); omega)
 have e0 : ∀ k i, i ≤ k → (a ≤ i ∨ b ≤ k - i) → zfi F G k i = zfi F G k (i + 1) := fun k i _ h => by
  show _ = zfi F G k i + F i * G (k - i)
  rcases h with h | h
  ·rw [f1 i h, Int.zero_mul, Int.add_zero]
  ·rw [f2 (k - i) h, Int.mul_zero, Int.add_zero]
 have o0 := rof_ok (x := 0) (by decide) (by decide)
 obtain ⟨S, hS⟩ : ∃ S : Nat → Nat → Int, S = zfi F G := ⟨_, rfl⟩
 have hS1 : ∀ k, S k (k + 1) = Z.cf F G k := fun k => by rw [hS]; rfl
 have hS0 : ∀ k, S k 0 = 0 := fun k => by rw [hS]; rfl
 rw [← hS] at a0 e0
 clear hS hs lF lG hF hG f1 f2 fN
 generalize Z.cf F G = C at *
 refine fn_ok (E := E0) E0_ok Tryz.func119 rfl mixed (by kernel_rfl) (by kernel_rfl) ?_
 conv => whnf
 refine ⟨_, s1, ?_⟩
 conv => whnf
 refine ⟨_, s2, ?_⟩
 conv => whnf
 refine bcase (fun (h : gw false (decide ((a : Int) = 0)) = true) => ?_) fun (h : gw false (decide ((a : Int) = 0)) = false) => ?_
 ·have h : a ≠ 0 := by have := of_decide_eq_false (gwf h); omega
  conv => whnf
  refine bcase (fun (h2 : decide ((b : Int) = 0) = true) => ?_) fun (h2 : decide ((b : Int) = 0) = false) => ?_
  ·have h2 : b = 0 := by have := of_decide_eq_true h2; omega
   conv => whnf
   exact ⟨rfl, sub_nil0 (z2 h2)⟩
  have h2 : b ≠ 0 := by have := of_decide_eq_false h2; omega
  have z3 := z3 h h2
  conv => whnf
  refine loop_ints (fun k : Nat => gst [(5, .c (nl a F)), (6, .c (nl b G)), (7, .c (.gs 0 0)), (8, .c (.int .i64 k))] [gz k C]) (fun k => a + b - 1 - k) (fun k => k ≤ a + b - 1) 0 rfl (Weak.gen [none] rfl ⟨rfl, trivial⟩ ⟨.inl ⟨_, _, rfl, rfl, fun _ _ _ _ => rfl⟩, .inl ⟨_, _, rfl, rfl, fun _ _ _ _ => rfl⟩, rfl, ⟨_, rfl, rfl⟩, trivial⟩) (Nat.zero_le _) fun k hk => ?_
  have s3 := s3 k
  have z3 := z3 k
  have m0 := m0 k
  have a0 := a0 k
  have e0 := e0 k
  have hS1 := hS1 k
  have hS0 := hS0 k
  conv => whnf
  refine ⟨i64 (by omega) (by omega), ?_⟩
  conv => whnf
  refine ⟨i64 (by omega) (by omega), ?_⟩
  conv => whnf
  refine bcase (fun (h3 : decide ((k : Int) < (a : Int) + (b : Int) - 1) = true) => ?_) fun (h3 : decide ((k : Int) < (a : Int) + (b : Int) - 1) = false) => ?_
  ·have h3 := of_decide_eq_true h3
   conv => whnf
   refine ⟨_, o0, ?_⟩
   conv => whnf
   refine loop_ints (fun i : Nat => gst [(5, .c (nl a F)), (6, .c (nl b G)), (7, .c (.gs 0 0)), (8, .c (.int .i64 k)), (9, .c (.p 1 0 2 0 0)), (10, .c (.int .i64 i))] [gz k C, ⟨44, 2, 1, boxF (nz (S k i))⟩]) (fun i => k + 1 - i) (fun i => i ≤ k + 1) 0 rfl (Weak.gen [some 0, some 1] rfl ⟨⟨_, rfl, rfl, rfl, rfl, rfl, fun x y hx hy => regE rfl (zl_clos (c := fun i => ofZ (C i)) x y)⟩, (by rw [hS0]; exact boxU rfl rfl rfl), trivial⟩ ⟨.inl ⟨_, _, rfl, rfl, fun _ _ _ _ => rfl⟩, .inl ⟨_, _, rfl, rfl, fun _ _ _ _ => rfl⟩, ⟨_, rfl, rfl, rfl⟩, ⟨_, rfl, rfl⟩, ⟨_, rfl, rfl, rfl⟩, ⟨_, rfl, rfl⟩, trivial⟩) (Nat.zero_le _) fun i hi => ?_
   have m0 := m0 i
   have a0 := a0 i
   have e0 := e0 i
   conv => whnf
   refine bcase (fun (h4 : decide ((i : Int) ≤ k) = true) => ?_) fun (h4 : decide ((i : Int) ≤ k) = false) => ?_
   ·have h4 := of_decide_eq_true h4
    conv => whnf
    refine bcase (fun (h5 : gw true (decide ((i : Int) < a)) = true) => ?_) fun (h5 : gw true (decide ((i : Int) < a)) = false) => ?_
    ·have h5 := of_decide_eq_true (gw_true.1 h5)
     conv => whnf
     refine ⟨i64 (by omega) (by omega), ?_⟩
     conv => whnf
     refine bcase (fun (h6 : decide ((k : Int) - (i : Int) < b) = true) => ?_) fun (h6 : decide ((k : Int) - (i : Int) < b) = false) => ?_
     ·have h6 := of_decide_eq_true h6
      conv => whnf
      refine ⟨by omega, by omega, ?_⟩
      conv => whnf
      refine ⟨i64 (by omega) (by omega), ?_⟩
      conv => whnf
      refine ⟨by omega, by omega, ?_⟩
      conv => whnf
      refine ⟨_, m0, ?_⟩
      conv => whnf
      refine ⟨_, a0, ?_⟩
      conv => whnf
      refine ⟨i64 (by omega) (by omega), ?_⟩
      conv => whnf
      exact ⟨i + 1, by omega, Weak.gen [some 0, some 1] rfl ⟨⟨_, rfl, rfl, rfl, rfl, rfl, fun x y hx hy => regE rfl (zl_clos (c := fun i => ofZ (C i)) x y)⟩, boxU rfl rfl rfl, trivial⟩ ⟨.inl ⟨_, _, rfl, rfl, fun _ _ _ _ => rfl⟩, .inl ⟨_, _, rfl, rfl, fun _ _ _ _ => rfl⟩, ⟨_, rfl, rfl, rfl⟩, ⟨_, rfl, rfl⟩, ⟨_, rfl, rfl, rfl⟩, ⟨_, rfl, rfl⟩, trivial⟩, by omega⟩
     ·have h6 := of_decide_eq_false h6
      have e0 := e0 (by omega) (.inr (by omega))
      conv => whnf
      refine ⟨i64 (by omega) (by omega), ?_⟩
      conv => whnf
      exact ⟨i + 1, by omega, Weak.gen [some 0, some 1] rfl ⟨⟨_, rfl, rfl, rfl, rfl, rfl, fun x y hx hy => regE rfl (zl_clos (c := fun i => ofZ (C i)) x y)⟩, (by rw [← e0]; exact boxK rfl rfl), trivial⟩ ⟨.inl ⟨_, _, rfl, rfl, fun _ _ _ _ => rfl⟩, .inl ⟨_, _, rfl, rfl, fun _ _ _ _ => rfl⟩, ⟨_, rfl, rfl, rfl⟩, ⟨_, rfl, rfl⟩, ⟨_, rfl, rfl, rfl⟩, ⟨_, rfl, rfl⟩, trivial⟩, by omega⟩
    ·have h5 := of_decide_eq_false (gw_false.1 h5)
     have e0 := e0 (by omega) (.inl (by omega))
     conv => whnf
     refine ⟨i64 (by omega) (by omega), ?_⟩
     conv => whnf
     exact ⟨i + 1, by omega, Weak.gen [some 0, some 1] rfl ⟨⟨_, rfl, rfl, rfl, rfl, rfl, fun x y hx hy => regE rfl (zl_clos (c := fun i => ofZ (C i)) x y)⟩, (by rw [← e0]; exact boxK rfl rfl), trivial⟩ ⟨.inl ⟨_, _, rfl, rfl, fun _ _ _ _ => rfl⟩, .inl ⟨_, _, rfl, rfl, fun _ _ _ _ => rfl⟩, ⟨_, rfl, rfl, rfl⟩, ⟨_, rfl, rfl⟩, ⟨_, rfl, rfl, rfl⟩, ⟨_, rfl, rfl⟩, trivial⟩, by omega⟩
   ·have h4 := of_decide_eq_false h4
    have ei : S k i = C k := by rw [show i = k + 1 by omega]; exact hS1
    conv => whnf
    refine ⟨by show k + 1 ≤ 16777216; omega, fun x y hx hy => one_nz (S k i) _ x y hx hy, ?_⟩
    conv => whnf
    refine ⟨i64 (by omega) (by omega), ?_⟩
    conv => whnf
    refine ⟨k + 1, by omega, Weak.gen [some 0] rfl ⟨⟨_, rfl, rfl, rfl, rfl, rfl, fun x y hx hy => regE ?_ (zl_clos (c := fun i => ofZ (C i)) x y)⟩, trivial⟩ ⟨.inl ⟨_, _, rfl, rfl, fun _ _ _ _ => rfl⟩, .inl ⟨_, _, rfl, rfl, fun _ _ _ _ => rfl⟩, ⟨_, rfl, rfl, rfl⟩, ⟨_, rfl, rfl⟩, trivial⟩, by omega⟩
    exact appG (sz := 2) (g := fun k => nz (C k)) (g' := fun k => nz (C k)) (l := nz (S k i)) (by rw [ei]; exact app_same (fun k => nz (C k)) k x) (Nat.le_refl (k + 1)) hx
  ·have h3 := of_decide_eq_false h3
   have s3 := s3 (by omega)
   rw [z3 (by omega)] at s3
   conv => whnf
   refine ⟨fun x y _ _ => zl_clos (c := fun i => ofZ (C i)) x y, ?_⟩
   conv => whnf
   refine ⟨_, s3, ?_⟩
   conv => whnf
   exact ⟨rfl, Sub.refl _⟩
 ·have h : a = 0 := by have := of_decide_eq_true (gwf' h); omega
  conv => whnf
  exact ⟨rfl, sub_nil0 (z1 h)⟩
end Rf
end Go.Proofs.YtmbejakmeijcbaaGreat
/- The document's polynomials over the integers: shifts, division by a monic one. -/
namespace Go.Proofs.YtmbejakmeijcbaaGreat
open Go.RowKit
namespace Z
def sh (k : Nat) (a : Nat → Int) (i : Nat) : Int := if i < k then 0 else a (i - k)
def mo (c : Int) (k i : Nat) : Int := if i = k then c else 0
def lo (k : Nat) (q : Nat → Int) (i : Nat) : Int := if i < k then q i else 0
def hi (k : Nat) (q : Nat → Int) (i : Nat) : Int := if k ≤ i then q i else 0
theorem lo_fin (k : Nat) (q : Nat → Int) : Fin k (lo k q) := fun i hi => if_neg (by omega)
theorem mo_fin (c : Int) (k : Nat) : Fin (k + 1) (mo c k) := fun i hi => if_neg (by omega)
theorem sh_one (c : Int) (k : Nat) : sh k (fun i => if i = 0 then c else 0) = mo c k := funext fun i => by
 unfold sh mo
 by_cases h : i < k
 ·rw [if_pos h, if_neg (by omega)]
 ·rw [if_neg h]
  show (if i - k = 0 then c else 0) = _
  by_cases e : i = k
  ·rw [if_pos (by omega), if_pos e]
  ·rw [if_neg (by omega), if_neg e]
theorem lo_next {k : Nat} {q : Nat → Int} : lo (tl q k) q = lo k q := funext fun i => by
 unfold lo
 by_cases h : i < tl q k
 ·rw [if_pos h, if_pos (Nat.lt_of_lt_of_le h (tl_le q k))]
 ·rw [if_neg h]
  split
  ·rename_i h2
   exact (tl_behind (by omega) h2).symm
  ·rfl
theorem lo_split (k : Nat) (q : Nat → Int) (i : Nat) : lo (k + 1) q i = lo k q i + mo (q k) k i := by
 unfold lo mo
 by_cases e : i = k
 ·rw [if_pos (by omega), if_neg (by omega), if_pos e, e, Int.zero_add]
 ·rw [if_neg e, Int.add_zero]
  by_cases h : i < k
  ·rw [if_pos h, if_pos (by omega)]
  ·rw [if_neg h, if_neg (by omega)]
theorem hi_next {k : Nat} {q : Nat → Int} : (fun i => hi (k + 1) q i + mo (q k) k i) = hi (tl q k) q := funext fun i => by
 have h1 := tl_le q k
 show hi (k + 1) q i + mo (q k) k i = _
 unfold hi mo
 by_cases e : i = k
 ·rw [if_neg (by omega), if_pos e, if_pos (by omega), e, Int.zero_add]
 ·rw [if_neg e, Int.add_zero]
  by_cases h : k + 1 ≤ i
  ·rw [if_pos h, if_pos (by omega)]
  ·rw [if_neg h]
   split
   ·rename_i h2
    exact (tl_behind h2 (by omega)).symm
   ·rfl
theorem part_fin {d k : Nat} {q b : Nat → Int} (fb : Fin (d + 1) b) : Fin (k + d) (cf (lo k q) b) := fun j hj => su_zero fun i hi => by
 rcases Nat.lt_or_ge i k with c | c
 ·rw [fb (j - i) (by omega), Int.mul_zero]
 ·rw [lo_fin k q i c, Int.zero_mul]
theorem part_top {d k : Nat} {q b : Nat → Int} (hb : Mon d b) (hk : 1 ≤ k) : cf (lo k q) b (k - 1 + d) = q (k - 1) := by
 rw [cf_top hb (by rw [show k - 1 + 1 = k by omega]; exact lo_fin k q)]
 exact if_pos (by omega)
theorem part_zero (q b : Nat → Int) (j : Nat) : cf (lo 0 q) b j = 0 := su_zero fun i _ => by
 rw [lo_fin 0 q i (Nat.zero_le i), Int.zero_mul]
theorem part_next {k : Nat} {q b : Nat → Int} : (fun j => cf (lo (k + 1) q) b j - cf (mo (q k) k) b j) = cf (lo (tl q k) q) b := funext fun j => by
 rw [cf_congr (fun i => lo_split k q i) (fun _ => rfl) j, cf_add_left, lo_next]
 omega
end Z
namespace Rf
theorem app_clos {k : Nat} {f g : Nat → Nat → Cell} (hf : ∀ x y, (f x y).clos = true) (hg : ∀ x y, (g x y).clos = true) (x y : Nat) : (appF k f g x y).clos = true := by
 unfold appF
 split
 ·exact hf x y
 ·exact hg _ y
set_option maxHeartbeats 4000000 in
theorem shift5_ok {n k : Nat} {a : Nat → Int} (hn : n ≤ 4096) (hk : k ≤ 4096) (h0 : 1 ≤ n) (ht : a (n - 1) ≠ 0) (fa : Z.Fin n a) (la : ∀ i, zlen (a i) ≤ 1048576) : FnOK Tryz.prog false 112 [.c (nl n a), .c (.int .i64 k)] (.c (nl (k + n) (Z.sh k a))) := by
 have n0 := normal5_n (n := n) (v := a) (by omega) la
 rw [Z.tl_is fa fa (.inr ht)] at n0
 have o0 := rof_ok (x := 0) (by decide) (by decide)
 have g : ∀ i, i = k → Sub (.c (.row 2 (i + n) (appF i (zlF fun _ => ofZ 0) (zlF fun j => ofZ (a j))))) (.c (nl (k + n) (Z.sh k a))) := fun i e => by
  subst e
  refine subRowG rfl fun x y hx hy => ?_
  unfold appF
  split
  ·rename_i c
   exact zlF_eq (c := fun _ => ofZ 0) (e := fun j => ofZ (Z.sh i a j)) (by show ofZ 0 = ofZ (Z.sh i a x); rw [show Z.sh i a x = 0 from if_pos c])
  ·rename_i c
   exact zlF_eq (c := fun j => ofZ (a j)) (e := fun j => ofZ (Z.sh i a j)) (by show ofZ (a (x - i)) = ofZ (Z.sh i a x); rw [show Z.sh i a x = a (x - i) from if_neg c])
 clear ht fa la
 refine fn_ok (E := E0) E0_ok Tryz.func112 rfl mixed (by kernel_rfl) (by kernel_rfl) ?_
 conv => whnf
 refine ⟨_, n0, ?_⟩
 conv => whnf
 refine bneg (show decide ((n : Int) = 0) = false from decide_eq_false (by omega)) ?_
 conv => whnf
 refine loop_ints (fun i : Nat => gst [(1, .c (.int .i64 k)), (5, .c (nl n a)), (6, .c (.gs 0 0)), (7, .c (.int .i64 i))] [gz i fun _ => 0]) (fun i => k - i) (fun i => i ≤ k) 0 rfl (Weak.gen [none] rfl ⟨rfl, trivial⟩ ⟨⟨_, rfl, rfl⟩, .inl ⟨_, _, rfl, rfl, fun _ _ _ _ => rfl⟩, rfl, ⟨_, rfl, rfl⟩, trivial⟩) (Nat.zero_le _) fun i hi => ?_
 have g := g i
 conv => whnf
 refine bcase (fun (h : decide ((i : Int) < k) = true) => ?_) fun (h : decide ((i : Int) < k) = false) => ?_
 ·have h := of_decide_eq_true h
  conv => whnf
  refine ⟨_, o0, ?_⟩
  conv => whnf
  refine ⟨by show i + 1 ≤ 16777216; omega, fun x y hx hy => one_nz 0 _ x y hx hy, ?_⟩
  conv => whnf
  refine ⟨i64 (by omega) (by omega), ?_⟩
  conv => whnf
  refine ⟨i + 1, by omega, Weak.gen [some 0] rfl ⟨⟨_, rfl, rfl, rfl, rfl, rfl, fun x y hx hy => regE ?_ (zl_clos (c := fun _ => ofZ 0) x y)⟩, trivial⟩ ⟨⟨_, rfl, rfl⟩, .inl ⟨_, _, rfl, rfl, fun _ _ _ _ => rfl⟩, ⟨_, rfl, rfl, rfl⟩, ⟨_, rfl, rfl⟩, trivial⟩, by omega⟩
  exact appG (sz := 2) (g := fun _ => nz 0) (g' := fun _ => nz 0) (l := nz 0) (app_same (fun _ => nz 0) i x) (Nat.le_refl (i + 1)) hx
 ·have h := of_decide_eq_false h
  have g := g (by omega)
  conv => whnf
  refine ⟨by show i + n ≤ 16777216; omega, fun x y hx hy => ?_, ?_⟩
  ·match y, hy with
   | 0, _ => exact ⟨rfl, fun _ => rfl⟩
   | 1, _ => exact ⟨rfl, fun _ => rfl⟩
  conv => whnf
  refine ⟨fun x y _ _ => app_clos (fun x y => zl_clos (c := fun _ => ofZ 0) x y) (fun x y => zl_clos (c := fun j => ofZ (a j)) x y) x y, ?_⟩
  conv => whnf
  exact ⟨rfl, g⟩
theorem rowF_clos2 {x : Int} (i j : Nat) (hi : i < 1) (hj : j < 2) : (rowF 2 (nz x) i j).clos = true := by
 match i, j, hi, hj with
 | 0, 0, _, _ => rfl
 | 0, 1, _, _ => rfl
abbrev lenR (d k : Nat) : Nat := if k = 0 then 0 else k + d
abbrev lenQ (t k : Nat) : Nat := if k = t then 0 else t
set_option maxHeartbeats 8000000 in
theorem divide5_ok {d t : Nat} {q b : Nat → Int} (hd : d ≤ 1000) (ht : t ≤ 1000) (hb : Z.Mon d b) (fq : Z.Fin t q) (hq : t = 0 ∨ q (t - 1) ≠ 0) (lq : ∀ i, zlen (q i) ≤ 60000) (lb : ∀ i, zlen (b i) ≤ 60000) (lr : ∀ k j, zlen (Z.cf (Z.lo k q) b j) ≤ 60000) (lm : ∀ k j i, zlen (zfi (Z.mo (q k) k) b j i) ≤ 60000) : FnOK Tryz.prog false 81 [.c (nl (lenR d t) (Z.cf (Z.lo t q) b)), .c (nl (d + 1) b)] (.t2 (.c (nl t q)) (.c (.bool true))) := by
 have lb' : ∀ i, zlen (b i) ≤ 1048576 := fun i => by have := lb i; omega
 have tb : tl b (d + 1) = d + 1 := Z.tl_is hb.fin hb.fin (.inr (by rw [Nat.add_sub_cancel, hb.top]; decide))
 have fR : ∀ k, Z.Fin (lenR d k) (Z.cf (Z.lo k q) b) := fun k j hj => by
  by_cases e : k = 0
  ·rw [e]; exact Z.part_zero q b j
  ·exact Z.part_fin hb.fin j (by rw [show lenR d k = k + d from if_neg e] at hj; exact hj)
 have tR : ∀ k, (k = 0 ∨ q (k - 1) ≠ 0) → (lenR d k = 0 ∨ Z.cf (Z.lo k q) b (lenR d k - 1) ≠ 0) := fun k h => by
  rcases h with h | h
  ·exact .inl (if_pos h)
  ·by_cases e : k = 0
   ·exact .inl (if_pos e)
   ·refine .inr ?_
    rw [show lenR d k = k + d from if_neg e, show k + d - 1 = k - 1 + d by omega, Z.part_top hb (by omega)]
    exact h
 have n0 : FnOK Tryz.prog false 114 [.c (nl (lenR d t) (Z.cf (Z.lo t q) b))] (.c (nl (lenR d t) (Z.cf (Z.lo t q) b))) := by
  have hlen : lenR d t ≤ 1048576 := by unfold lenR; split <;> omega
  have h := normal5_n (n := lenR d t) (v := Z.cf (Z.lo t q) b) hlen fun i => by have := lr t i; omega
  rwa [Z.tl_is (fR t) (fR t) (tR t hq)] at h
 have d0 := degree5_n (n := d + 1) (v := b) (by omega) lb'
 rw [tb, show ((d + 1 : Nat) : Int) - 1 = (d : Int) by omega] at d0
 have l0 : FnOK Tryz.prog false 117 [.c (nl (d + 1) b)] (.g (nz 1)) := by
  have h := lead5_n (n := d + 1) (v := b) (by omega) lb'
  have e : ldc (d + 1) b = 1 := by
   show co b (d + 1) ((tl b (d + 1) : Nat) - 1) = 1
   rw [tb]
   unfold co
   rw [if_pos ⟨by omega, by omega⟩, show (((d + 1 : Nat) : Int) - 1).toNat = d by omega, hb.top]
  rwa [e] at h
 have g0 : FnOK Tryz.prog false 86 [.g (nz 0)] (.c (.int .i64 0)) := by
  have h := zsign_ok (a := ofZ 0) (wr_nz (by decide))
  rwa [ofZ_val] at h
 -- the round at a place k + 1 at which there is something
 have e0 : ∀ k, FnOK Tryz.prog false 116 [.g (nz (Z.cf (Z.lo (k + 1) q) b (((k + 1 + d : Nat) : Int) - 1).toNat)), .g (nz 1)] (.t2 (.g (nz (q k))) (.g (nz 0))) := fun k => by
  have e1 : Z.cf (Z.lo (k + 1) q) b (((k + 1 + d : Nat) : Int) - 1).toNat = q k := by
   rw [show (((k + 1 + d : Nat) : Int) - 1).toNat = k + 1 - 1 + d by omega]
   exact Z.part_top hb (by omega)
  rw [e1]
  have h := euclid_ok (a := ofZ (q k)) (b := ofZ 1) (wr_nz (by have := lq k; omega)) (wr_nz (by decide)) (by rw [ofZ_val]; have := lq k; omega) (by rw [ofZ_val]; decide) (by rw [ofZ_val]; decide)
  rw [ofZ_val, ofZ_val, Int.ediv_one, Int.emod_one] at h
  exact h
 have s0 : ∀ k, k + 1 ≤ t → q k ≠ 0 → FnOK Tryz.prog false 112 [.c (.row 2 1 (rowF 2 (nz (q k)))), .c (.int .i64 (((k + 1 + d : Nat) : Int) - 1 - (d : Int)))] (.c (nl (k + 1) (Z.mo (q k) k))) := fun k hk h => by
  have s := shift5_ok (n := 1) (k := k) (a := fun i => if i = 0 then q k else 0) (by omega) (by omega) (Nat.le_refl 1) h (fun i hi => if_neg (by omega)) fun i => by
   show zlen (if i = 0 then q k else 0) ≤ _
   split
   ·have := lq k; omega
   ·decide
  rw [Z.sh_one] at s
  rw [show ((k + 1 + d : Nat) : Int) - 1 - (d : Int) = (k : Nat) by omega]
  refine arg_ok s fun D w vs hh => ?_
  match vs, hh with
  | [x, y], ⟨h1, h2, _⟩ =>
   refine ⟨subRowG rfl (fun i j hi hj => ?_) D w x h1, h2, trivial⟩
   match i, j, hi, hj with
   | 0, 0, _, _ => rfl
   | 0, 1, _, _ => rfl
 have a0 : ∀ k, k + 1 ≤ t → q k ≠ 0 → FnOK Tryz.prog false 118 [.c (nl (lenQ t (k + 1)) (Z.hi (k + 1) q)), .c (nl (k + 1) (Z.mo (q k) k))] (.c (nl (lenQ t (tl q k)) (Z.hi (tl q k) q))) := fun k hk h => by
  have hle := tl_le q k
  have fh : ∀ j, Z.Fin t (Z.hi j q) := fun j i hi => by
   unfold Z.hi
   split
   ·exact fq i hi
   ·rfl
  have fk : Z.Fin (lenQ t (k + 1)) (Z.hi (k + 1) q) := fun i hi => by
   by_cases e : k + 1 = t
   ·unfold Z.hi
    split
    ·exact fq i (by omega)
    ·rfl
   ·exact fh _ i (by rw [show lenQ t (k + 1) = t from if_neg e] at hi; exact hi)
  have lh : ∀ j i, zlen (Z.hi j q i) ≤ 524286 := fun j i => by
   unfold Z.hi
   split
   ·have := lq i; omega
   ·decide
  have lmo : ∀ i, zlen (Z.mo (q k) k i) ≤ 524286 := fun i => by
   unfold Z.mo
   split
   ·have := lq k; omega
   ·decide
  have hb1 : lenQ t (k + 1) ≤ 4096 := by unfold lenQ; split <;> omega
  have s := add5_ok (n := lenQ t (k + 1)) (m := k + 1) hb1 (by omega) fk (Z.mo_fin (q k) k) (lh _) lmo
  rw [Z.hi_next] at s
  have e1 : tl (Z.hi (tl q k) q) (max (lenQ t (k + 1)) (k + 1)) = lenQ t (tl q k) := by
   have e2 : lenQ t (tl q k) = t := if_neg (by omega)
   rw [e2]
   refine Z.tl_is (fun i hi => ?_) (fh _) (.inr ?_)
   ·by_cases e : k + 1 = t
    ·exact fh _ i (by omega)
    ·exact fh _ i (by have e3 : lenQ t (k + 1) = t := if_neg e; omega)
   ·unfold Z.hi
    rw [if_pos (by omega)]
    rcases hq with h' | h'
    ·omega
    ·exact h'
  rwa [e1] at s
 have m0 : ∀ k, k + 1 ≤ t → FnOK Tryz.prog false 119 [.c (nl (k + 1) (Z.mo (q k) k)), .c (nl (d + 1) b)] (.c (nl (tl (Z.cf (Z.mo (q k) k) b) (k + 1 + (d + 1))) (Z.cf (Z.mo (q k) k) b))) := fun k hk =>
  mul5_ok (Z.mo_fin (q k) k) hb.fin (by omega) (by omega) (fun i => by
   unfold Z.mo
   split
   ·have := lq k; omega
   ·decide) (fun i => by have := lb i; omega) fun j i => by have := lm k j i; omega
 have u0 : ∀ k, k + 1 ≤ t → FnOK Tryz.prog false 111 [.c (nl (lenR d (k + 1)) (Z.cf (Z.lo (k + 1) q) b)), .c (nl (tl (Z.cf (Z.mo (q k) k) b) (k + 1 + (d + 1))) (Z.cf (Z.mo (q k) k) b))] (.c (nl (lenR d (tl q k)) (Z.cf (Z.lo (tl q k) q) b))) := fun k hk => by
  have hle := tl_le q k
  have hl := tl_le (Z.cf (Z.mo (q k) k) b) (k + 1 + (d + 1))
  have fm : Z.Fin (tl (Z.cf (Z.mo (q k) k) b) (k + 1 + (d + 1))) (Z.cf (Z.mo (q k) k) b) := Z.tl_fin ((Z.mo_fin (q k) k).cf hb.fin)
  have hk1 : lenR d (k + 1) ≤ 4096 := by unfold lenR; split <;> omega
  have s := sub5_ok (n := lenR d (k + 1)) (m := tl (Z.cf (Z.mo (q k) k) b) (k + 1 + (d + 1))) hk1 (by omega) (fR (k + 1)) fm (fun i => by have := lr (k + 1) i; omega) fun i => by have h := lm k i (i + 1); have h : zlen (Z.cf (Z.mo (q k) k) b i) ≤ 60000 := h; omega
  rw [Z.part_next] at s
  have e1 : tl (Z.cf (Z.lo (tl q k) q) b) (max (lenR d (k + 1)) (tl (Z.cf (Z.mo (q k) k) b) (k + 1 + (d + 1)))) = lenR d (tl q k) := by
   refine Z.tl_is (fun i hi => fR (tl q k) i ?_) (fR _) (tR _ ?_)
   ·have e2 : lenR d (k + 1) = k + 1 + d := if_neg (by omega)
    unfold lenR
    split
    ·omega
    ·omega
   ·rcases Nat.eq_zero_or_pos (tl q k) with e | e
    ·exact .inl e
    ·exact .inr (tl_top (n := k) (k := tl q k - 1) (by omega))
  rwa [e1] at s
 clear lq lb lb' lr lm fR tR tb
 obtain ⟨R, hR⟩ : ∃ R : Nat → Nat → Int, R = fun k => Z.cf (Z.lo k q) b := ⟨_, rfl⟩
 obtain ⟨G, hG⟩ : ∃ G : Nat → Nat → Int, G = fun k => Z.hi k q := ⟨_, rfl⟩
 have n1 : FnOK Tryz.prog false 114 [.c (nl (lenR d t) (Z.cf (Z.lo t q) b))] (.c (nl (lenR d t) (R t))) := by rw [hR]; exact n0
 have e1 : ∀ k, FnOK Tryz.prog false 116 [.g (nz (R (k + 1) (((k + 1 + d : Nat) : Int) - 1).toNat)), .g (nz 1)] (.t2 (.g (nz (q k))) (.g (nz 0))) := by rw [hR]; exact e0
 have a1 : ∀ k, k + 1 ≤ t → q k ≠ 0 → FnOK Tryz.prog false 118 [.c (nl (lenQ t (k + 1)) (G (k + 1))), .c (nl (k + 1) (Z.mo (q k) k))] (.c (nl (lenQ t (tl q k)) (G (tl q k)))) := by rw [hG]; exact a0
 have u1 : ∀ k, k + 1 ≤ t → FnOK Tryz.prog false 111 [.c (nl (lenR d (k + 1)) (R (k + 1))), .c (nl (tl (Z.cf (Z.mo (q k) k) b) (k + 1 + (d + 1))) (Z.cf (Z.mo (q k) k) b))] (.c (nl (lenR d (tl q k)) (R (tl q k)))) := by rw [hR]; exact u0
 have r1 : Sub (.t2 (.c (nl (lenQ t 0) (G 0))) (.c (.bool true))) (.t2 (.c (nl t q)) (.c (.bool true))) := by
  rintro D w v ⟨x, y, h1, h2, h3⟩
  refine ⟨x, y, h1, subRowG ?_ (fun i j hi _ => ?_) D w x h2, h3⟩
  ·unfold lenQ
   split
   ·rename_i e; exact e
   ·rfl
  ·rw [hG]
   exact zlF_eq (c := fun i => ofZ (Z.hi 0 q i)) (e := fun i => ofZ (q i)) (congrArg ofZ (if_pos (Nat.zero_le i)))
 have st0 : ∀ i j, i < lenQ t t → j < 2 → zlF (fun i => ofZ (G t i)) i j = zlF (fun i => ofZ (G t i)) i j := fun _ _ _ _ => rfl
 clear hR hG n0 e0 a0 u0 st0
 generalize Z.cf (Z.lo t q) b = A0 at *
 obtain ⟨M, hM⟩ : ∃ M : Nat → Nat → Int, M = fun k => Z.cf (Z.mo (q k) k) b := ⟨_, rfl⟩
 obtain ⟨lM, hlM⟩ : ∃ lM : Nat → Nat, lM = fun k => tl (Z.cf (Z.mo (q k) k) b) (k + 1 + (d + 1)) := ⟨_, rfl⟩
 have m1 : ∀ k, k + 1 ≤ t → FnOK Tryz.prog false 119 [.c (nl (k + 1) (Z.mo (q k) k)), .c (nl (d + 1) b)] (.c (nl (lM k) (M k))) := by rw [hM, hlM]; exact m0
 have u2 : ∀ k, k + 1 ≤ t → FnOK Tryz.prog false 111 [.c (nl (lenR d (k + 1)) (R (k + 1))), .c (nl (lM k) (M k))] (.c (nl (lenR d (tl q k)) (R (tl q k)))) := by rw [hM, hlM]; exact u1
 clear hM hlM m0 u1
 have hnext : ∀ k, tl q k = 0 ∨ q (tl q k - 1) ≠ 0 := fun k => by
  rcases Nat.eq_zero_or_pos (tl q k) with e | e
  ·exact .inl e
  ·exact .inr (tl_top (n := k) (k := tl q k - 1) (by omega))
 refine fn_ok (E := E0) E0_ok Tryz.func81 rfl mixed (by kernel_rfl) (by kernel_rfl) ?_
 conv => whnf
 refine ⟨_, n1, ?_⟩
 conv => whnf
 refine ⟨_, d0, ?_⟩
 conv => whnf
 refine loop_ints (fun k : Nat => gst [(1, .c (nl (d + 1) b)), (6, .c (nl (lenR d k) (R k))), (7, .c (.int .i64 d)), (8, .c (nl (lenQ t k) (G k)))] []) (fun k => k) (fun k => k ≤ t ∧ (k = 0 ∨ q (k - 1) ≠ 0)) t rfl (Weak.gen [] rfl trivial ⟨.inl ⟨_, _, rfl, rfl, fun _ _ _ _ => rfl⟩, .inl ⟨_, _, rfl, rfl, fun _ _ _ _ => rfl⟩, ⟨_, rfl, rfl⟩, .inr (.inl ⟨if_pos rfl, rfl⟩), trivial⟩) ⟨Nat.le_refl t, hq⟩ fun k ⟨hk, hqk⟩ => ?_
 rcases Nat.eq_zero_or_pos k with e | e
 ·have r2 : Sub (.t2 (.c (nl (lenQ t k) (G k))) (.c (.bool true))) (.t2 (.c (nl t q)) (.c (.bool true))) := by rw [e]; exact r1
  have e2 : lenR d k = 0 := if_pos e
  have c1 : decide ((d : Int) ≤ ((lenR d k : Nat) : Int) - 1) = false := decide_eq_false (by omega)
  have c2 : decide (((lenR d k : Nat) : Int) = 0) = true := decide_eq_true (by omega)
  have hl : lenR d k ≤ 4096 := by omega
  have r3 : Sub (.t2 (.c (nl (lenQ t k) (G k))) (.c (.bool (decide (((lenR d k : Nat) : Int) = 0))))) (.t2 (.c (nl t q)) (.c (.bool true))) := by rw [c2]; exact r2
  clear e2 c2 r2
  generalize lenR d k = lr at *
  conv => whnf
  refine ⟨i64 (by omega) (by omega), ?_⟩
  conv => whnf
  refine bneg c1 ?_
  conv => whnf
  exact ⟨rfl, r3⟩
 ·obtain ⟨j, rfl⟩ : ∃ j, k = j + 1 := ⟨k - 1, by omega⟩
  have hqj : q j ≠ 0 := by
   rcases hqk with h | h
   ·omega
   ·exact h
  have e1 := e1 j
  have s1 := s0 j hk hqj
  have a2 := a1 j hk hqj
  have m2 := m1 j hk
  have u3 := u2 j hk
  have hle := tl_le q j
  have hnx := hnext j
  have e2 : lenR d (j + 1) = j + 1 + d := if_neg (by omega)
  rw [e2] at u3 ⊢
  conv => whnf
  refine ⟨i64 (by omega) (by omega), ?_⟩
  conv => whnf
  refine bpos (show decide ((d : Int) ≤ ((j + 1 + d : Nat) : Int) - 1) = true from decide_eq_true (by omega)) ?_
  conv => whnf
  refine ⟨i64 (by omega) (by omega), ?_⟩
  conv => whnf
  refine ⟨by omega, by show ((j + 1 + d : Nat) : Int) - 1 < ((j + 1 + d : Nat) : Int); omega, ?_⟩
  conv => whnf
  refine ⟨_, l0, ?_⟩
  conv => whnf
  refine ⟨_, e1, ?_⟩
  conv => whnf
  refine ⟨_, g0, ?_⟩
  conv => whnf
  refine ⟨i64 (by omega) (by omega), ?_⟩
  conv => whnf
  refine ⟨i64 (by omega) (by omega), ?_⟩
  conv => whnf
  refine ⟨fun x y hx hy => rowF_clos2 x y hx hy, ?_⟩
  conv => whnf
  refine ⟨_, s1, ?_⟩
  conv => whnf
  refine ⟨_, a2, ?_⟩
  conv => whnf
  refine ⟨_, m2, ?_⟩
  conv => whnf
  refine ⟨_, u3, ?_⟩
  conv => whnf
  exact ⟨tl q j, by omega, Weak.gen [] rfl trivial ⟨.inl ⟨_, _, rfl, rfl, fun _ _ _ _ => rfl⟩, .inl ⟨_, _, rfl, rfl, fun _ _ _ _ => rfl⟩, ⟨_, rfl, rfl⟩, .inl ⟨_, _, rfl, rfl, fun _ _ _ _ => rfl⟩, trivial⟩, by omega, hnx⟩
end Rf
end Go.Proofs.YtmbejakmeijcbaaGreat
/- The document's cyclotomic polynomials: powers less one, products, the recursion; the law over what its calls hand back. -/
namespace Go.Proofs.YtmbejakmeijcbaaGreat
open Go.RowKit
namespace Z
def one (i : Nat) : Int := if i = 0 then 1 else 0
def xn1 (n i : Nat) : Int := mo 1 n i - one i
theorem one_fin : Fin 1 one := fun i hi => if_neg (by omega)
theorem xn1_fin {n : Nat} (h : 1 ≤ n) : Fin (n + 1) (xn1 n) := fun i hi => by
 show mo 1 n i - one i = 0
 rw [mo_fin 1 n i hi, one_fin i (by omega)]; rfl
theorem xn1_top {n : Nat} (h : 1 ≤ n) : xn1 n n = 1 := by
 show mo 1 n n - one n = 1
 rw [show mo 1 n n = 1 from if_pos rfl, one_fin n h]; rfl
end Z
namespace Rf
abbrev ints (n : Nat) (d : Nat → Nat) : Cell := .row 1 n fun i _ => .int .i64 (d i)
theorem of5_one : FnOK Tryz.prog false 113 [.c (.row 1 1 (rowF 1 [.int .i64 1]))] (.c (nl 1 Z.one)) := run_same (inl := fun _ => false) (by kernel_rfl)
set_option maxHeartbeats 4000000 in
theorem power15_ok {n : Nat} (h1 : 1 ≤ n) (hn : n ≤ 1000) : FnOK Tryz.prog false 80 [.c (.int .i64 n)] (.c (nl (n + 1) (Z.xn1 n))) := by
 have o0 := of5_one
 have s0 := shift5_ok (n := 1) (k := n) (a := Z.one) (by omega) (by omega) (Nat.le_refl 1) (by decide) Z.one_fin fun i => by
  unfold Z.one
  split
  ·decide
  ·decide
 have e : Z.sh n Z.one = Z.mo 1 n := Z.sh_one 1 n
 rw [e] at s0
 have u0 := sub5_ok (n := n + 1) (m := 1) (a := Z.mo 1 n) (b := Z.one) (by omega) (by omega) (Z.mo_fin 1 n) Z.one_fin (fun i => by
  unfold Z.mo
  split
  ·decide
  ·decide) fun i => by
  unfold Z.one
  split
  ·decide
  ·decide
 have e2 : (fun i => Z.mo 1 n i - Z.one i) = Z.xn1 n := rfl
 rw [e2, Z.tl_is (k := n + 1) ((Z.xn1_fin h1).mono (by omega)) (Z.xn1_fin h1) (.inr (by rw [Nat.add_sub_cancel, Z.xn1_top h1]; decide))] at u0
 clear e e2
 generalize Z.xn1 n = X at *
 refine fn_ok (E := E0) E0_ok Tryz.func80 rfl mixed (by kernel_rfl) (by kernel_rfl) ?_
 conv => whnf
 refine ⟨fun i j hi hj => ?_, ?_⟩
 ·match i, j, hi, hj with
  | 0, 0, _, _ => rfl
 conv => whnf
 refine ⟨_, o0, ?_⟩
 conv => whnf
 refine ⟨_, s0, ?_⟩
 conv => whnf
 refine ⟨fun i j hi hj => ?_, ?_⟩
 ·match i, j, hi, hj with
  | 0, 0, _, _ => rfl
 conv => whnf
 refine ⟨_, o0, ?_⟩
 conv => whnf
 refine ⟨_, u0, ?_⟩
 conv => whnf
 exact ⟨rfl, Sub.refl _⟩
set_option maxHeartbeats 4000000 in
theorem poly15_ok {n k : Nat} {dv m L : Nat → Nat} {P S : Nat → Nat → Int} (hk : k ≤ 1000) (k1 : 1 ≤ k) (hP : FnOK Tryz.prog false 80 [.c (.int .i64 n)] (.c (nl (L 0) (S 0)))) (hD : FnOK Tryz.prog false 61 [.c (.int .i64 n)] (.c (ints k dv))) (hQ : ∀ i, i + 1 < k → FnOK Tryz.prog false 47 [.c (.int .i64 (dv i))] (.c (nl (m i) (P i))))
  (hd : ∀ i, i + 1 < k → FnOK Tryz.prog false 81 [.c (nl (L i) (S i)), .c (nl (m i) (P i))] (.t2 (.c (nl (L (i + 1)) (S (i + 1)))) (.c (.bool true)))) : FnOK Tryz.prog false 47 [.c (.int .i64 n)] (.c (nl (L (k - 1)) (S (k - 1)))) := by
 refine fn_ok (E := E0) E0_ok Tryz.func47 rfl mixed (by kernel_rfl) (by kernel_rfl) ?_
 conv => whnf
 refine ⟨_, hP, ?_⟩
 conv => whnf
 refine ⟨_, hD, ?_⟩
 conv => whnf
 refine loop_ints (fun i : Nat => gst [(3, .c (nl (L i) (S i))), (4, .c (ints k dv)), (5, .c (.int .i64 i))] []) (fun i => k - i) (fun i => i ≤ k - 1) 0 rfl (Weak.gen [] rfl trivial ⟨.inl ⟨_, _, rfl, rfl, fun _ _ _ _ => rfl⟩, .inl ⟨_, _, rfl, rfl, fun _ _ _ _ => rfl⟩, ⟨_, rfl, rfl⟩, trivial⟩) (Nat.zero_le _) fun i hi => ?_
 have hQ := hQ i
 have hd := hd i
 conv => whnf
 refine ⟨i64 (by omega) (by omega), ?_⟩
 conv => whnf
 refine bcase (fun (h : decide ((i : Int) + 1 < k) = true) => ?_) fun (h : decide ((i : Int) + 1 < k) = false) => ?_
 ·have h := of_decide_eq_true h
  have hQ := hQ (by omega)
  have hd := hd (by omega)
  conv => whnf
  refine ⟨by omega, by omega, ?_⟩
  conv => whnf
  refine ⟨_, hQ, ?_⟩
  conv => whnf
  refine ⟨_, hd, ?_⟩
  conv => whnf
  refine ⟨i64 (by omega) (by omega), ?_⟩
  conv => whnf
  exact ⟨i + 1, by omega, Weak.gen [] rfl trivial ⟨.inl ⟨_, _, rfl, rfl, fun _ _ _ _ => rfl⟩, .inl ⟨_, _, rfl, rfl, fun _ _ _ _ => rfl⟩, ⟨_, rfl, rfl⟩, trivial⟩, by omega⟩
 ·have h := of_decide_eq_false h
  have g : Sub (.c (nl (L i) (S i))) (.c (nl (L (k - 1)) (S (k - 1)))) := by rw [show i = k - 1 by omega]; exact Sub.refl _
  conv => whnf
  exact ⟨rfl, g⟩
end Rf
end Go.Proofs.YtmbejakmeijcbaaGreat
/- Products and quotients of literal lists of the document's integer polynomials. -/
namespace Go.Proofs.YtmbejakmeijcbaaGreat
open Go.RowKit
namespace Z
theorem zlen64 {x : Int} (h : x.natAbs < 18446744073709551616) : zlen x ≤ 2 := zlen_le (Nat.lt_of_lt_of_le h (by decide))
theorem su_abs {f : Nat → Int} {M N : Nat} (hf : ∀ i, (f i).natAbs ≤ M) (h0 : ∀ i, N ≤ i → f i = 0) : ∀ n, (su f n).natAbs ≤ min n N * M
 | 0 => by show (0 : Int).natAbs ≤ _; simp
 | n + 1 => by
  have ih := su_abs hf h0 n
  show (su f n + f n).natAbs ≤ _
  rcases Nat.lt_or_ge n N with c | c
  ·have h1 := Int.natAbs_add_le (su f n) (f n)
   have h2 := hf n
   have h3 : min (n + 1) N = min n N + 1 := by omega
   rw [h3, Nat.succ_mul]
   omega
  ·rw [h0 n c, Int.add_zero]
   have h3 : min (n + 1) N = min n N := by omega
   rw [h3]; exact ih
def smB (l : List Int) : Bool := decide (l.length ≤ 200) && l.all fun x => decide (x.natAbs ≤ 1048576)
abbrev gl (l : List Int) (i : Nat) : Int := l.getD i 0
theorem smB_abs {l : List Int} (h : smB l = true) (i : Nat) : (gl l i).natAbs ≤ 1048576 := by
 unfold smB at h
 simp only [Bool.and_eq_true] at h
 show (l.getD i 0).natAbs ≤ _
 rw [List.getD_eq_getElem?_getD]
 cases hx : l[i]? with
 | none => exact Nat.zero_le _
 | some x => exact of_decide_eq_true (List.all_eq_true.1 h.2 x (List.mem_of_getElem? hx))
theorem smB_len {l : List Int} (h : smB l = true) : l.length ≤ 200 := by
 unfold smB at h
 simp only [Bool.and_eq_true, decide_eq_true_eq] at h
 exact h.1
theorem gl_fin (l : List Int) : Fin l.length (gl l) := fun i hi => by
 show l.getD i 0 = 0
 rw [List.getD_eq_getElem?_getD, List.getElem?_eq_none hi]; rfl
theorem gl_len {l : List Int} (h : smB l = true) (i : Nat) : zlen (gl l i) ≤ 2 := zlen64 (by have := smB_abs h i; omega)
theorem prod_abs {x y : Int} (hx : x.natAbs ≤ 1048576) (hy : y.natAbs ≤ 1048576) : (x * y).natAbs ≤ 1099511627776 := by
 rw [Int.natAbs_mul]
 exact Nat.mul_le_mul hx hy
theorem sum_len {F G : Nat → Int} {N : Nat} (hN : N ≤ 200) (hF : ∀ i, (F i).natAbs ≤ 1048576) (hG : ∀ i, (G i).natAbs ≤ 1048576) (f0 : Fin N F) (k i : Nat) : zlen (su (fun a => F a * G (k - a)) i) ≤ 2 := zlen64 (by
 have h := su_abs (f := fun a => F a * G (k - a)) (M := 1099511627776) (N := N) (fun a => prod_abs (hF a) (hG (k - a))) (fun a ha => by show F a * _ = 0; rw [f0 a ha, Int.zero_mul]) i
 have h2 : min i N * 1099511627776 ≤ 200 * 1099511627776 := Nat.mul_le_mul_right _ (by omega)
 omega)
def eqB (n : Nat) (F G : Nat → Int) : Bool := (List.range n).all fun k => F k == G k
theorem eqB_ok {n : Nat} {F G : Nat → Int} (h : eqB n F G = true) (hF : Fin n F) (hG : Fin n G) : F = G := funext fun k => by
 rcases Nat.lt_or_ge k n with c | c
 ·exact beq_iff_eq.1 (List.all_eq_true.1 h k (List.mem_range.2 c))
 ·rw [hF k c, hG k c]
def topB (l : List Int) : Bool := l.length == 0 || !(gl l (l.length - 1) == 0)
theorem topB_ok {l : List Int} (h : topB l = true) : l.length = 0 ∨ gl l (l.length - 1) ≠ 0 := by
 unfold topB at h
 simp only [Bool.or_eq_true, beq_iff_eq, Bool.not_eq_true', beq_eq_false_iff_ne] at h
 exact h
end Z
namespace Rf
def divB (q b : List Int) (n : Nat) (c : Nat → Int) : Bool := Z.smB q && Z.smB b && Z.topB q && decide (1 ≤ q.length) && decide (1 ≤ b.length) && (Z.gl b (b.length - 1) == 1) && (n == q.length + (b.length - 1)) && Z.eqB n (Z.cf (Z.gl q) (Z.gl b)) c
theorem div_check {q b : List Int} {n : Nat} {c : Nat → Int} (hc : Z.Fin n c) (h : divB q b n c = true) : FnOK Tryz.prog false 81 [.c (nl n c), .c (nl b.length (Z.gl b))] (.t2 (.c (nl q.length (Z.gl q))) (.c (.bool true))) := by
 unfold divB at h
 simp only [Bool.and_eq_true, decide_eq_true_eq, beq_iff_eq] at h
 obtain ⟨⟨⟨⟨⟨⟨⟨h1, h2⟩, h3⟩, h4⟩, h5⟩, h6⟩, h7⟩, h8⟩ := h
 have l1 := Z.smB_len h1
 have l2 := Z.smB_len h2
 have fq := Z.gl_fin q
 have fb := Z.gl_fin b
 obtain ⟨d, hd⟩ : ∃ d, d = b.length - 1 := ⟨_, rfl⟩
 have hb : b.length = d + 1 := by omega
 rw [← hd] at h6 h7
 rw [hb] at fb ⊢
 have aq := Z.smB_abs h1
 have ab := Z.smB_abs h2
 have el : Z.lo q.length (Z.gl q) = Z.gl q := funext fun i => by
  unfold Z.lo
  split
  ·rfl
  ·exact (fq i (by omega)).symm
 have a1 : ∀ k i, (Z.lo k (Z.gl q) i).natAbs ≤ 1048576 := fun k i => by
  unfold Z.lo
  split
  ·exact aq i
  ·exact Nat.zero_le _
 have f1 : ∀ k, Z.Fin q.length (Z.lo k (Z.gl q)) := fun k i hi => by
  unfold Z.lo
  split
  ·exact fq i hi
  ·rfl
 have a2 : ∀ k i, (Z.mo (Z.gl q k) k i).natAbs ≤ 1048576 := fun k i => by
  unfold Z.mo
  split
  ·exact aq k
  ·exact Nat.zero_le _
 have f2 : ∀ k, Z.Fin q.length (Z.mo (Z.gl q k) k) := fun k i hi => by
  unfold Z.mo
  split
  ·rename_i e; rw [← e]; exact fq i hi
  ·rfl
 have hm := divide5_ok (d := d) (t := q.length) (q := Z.gl q) (b := Z.gl b) (by omega) (by omega) ⟨h6, fb⟩ fq (Z.topB_ok h3) (fun i => Nat.le_trans (Z.gl_len h1 i) (by decide)) (fun i => Nat.le_trans (Z.gl_len h2 i) (by decide)) (fun k j => Nat.le_trans (Z.sum_len l1 (a1 k) ab (f1 k) j (j + 1)) (by decide)) (fun k j i => Nat.le_trans (Z.sum_len l1 (a2 k) ab (f2 k) j i) (by decide))
 have e0 : lenR d q.length = n := by rw [h7]; exact if_neg (by omega)
 have fc : Z.Fin n (Z.cf (Z.gl q) (Z.gl b)) := by
  have h := Z.part_fin (k := q.length) (q := Z.gl q) fb
  rw [el] at h
  rw [h7]
  exact h
 rw [el, e0, Z.eqB_ok h8 fc hc] at hm
 exact hm
end Rf
end Go.Proofs.YtmbejakmeijcbaaGreat
/- The law of the cyclotomic polynomials at one order, from runs and checks of literal lists. -/
namespace Go.Proofs.YtmbejakmeijcbaaGreat
open Go.RowKit
namespace Rf
abbrev lg (Q : List (List Int)) (i : Nat) : List Int := Q.getD i []
def powB (n : Nat) (c : List Int) : Bool := (c.length == n + 1) && Z.eqB (n + 1) (Z.xn1 n) (Z.gl c)
theorem pow_check {n : Nat} {c : List Int} (h1 : 1 ≤ n) (hn : n ≤ 1000) (h : powB n c = true) : FnOK Tryz.prog false 80 [.c (.int .i64 n)] (.c (nl c.length (Z.gl c))) := by
 unfold powB at h
 simp only [Bool.and_eq_true, beq_iff_eq] at h
 have e := Z.eqB_ok h.2 (Z.xn1_fin h1) (by rw [← h.1]; exact Z.gl_fin c)
 have hp := power15_ok h1 hn
 rw [e, ← h.1] at hp
 exact hp
def refB (n k : Nat) (Q P : List (List Int)) : Bool := decide (1 ≤ n) && decide (n ≤ 60) && decide (1 ≤ k) && decide (k ≤ 1000) && powB n (lg Q 0) && (List.range (k - 1)).all fun i => divB (lg Q (i + 1)) (lg P i) (lg Q i).length (Z.gl (lg Q i))
theorem ref_check {n : Nat} {dv : List Nat} {Q P : List (List Int)} {l : List Int} (hD : FnOK Tryz.prog false 61 [.c (.int .i64 n)] (.c (ints dv.length fun i => dv.getD i 0))) (hb : refB n dv.length Q P = true) (hl : lg Q (dv.length - 1) = l) (hQ : ∀ i, i + 1 < dv.length → FnOK Tryz.prog false 47 [.c (.int .i64 (dv.getD i 0 : Nat))] (.c (nl (lg P i).length (Z.gl (lg P i))))) : FnOK Tryz.prog false 47 [.c (.int .i64 n)] (.c (nl l.length (Z.gl l))) := by
 unfold refB at hb
 simp only [Bool.and_eq_true, decide_eq_true_eq] at hb
 obtain ⟨⟨⟨⟨⟨h1, h2⟩, h3⟩, h4⟩, h5⟩, h6⟩ := hb
 have h := poly15_ok (L := fun i => (lg Q i).length) (S := fun i => Z.gl (lg Q i)) (m := fun i => (lg P i).length) (P := fun i => Z.gl (lg P i)) (dv := fun i => dv.getD i 0) h4 h3 (pow_check h1 (by omega) h5) hD hQ fun i hi => div_check (Z.gl_fin _) (List.all_eq_true.1 h6 i (List.mem_range.2 (by omega)))
 rw [← hl]
 exact h
end Rf
end Go.Proofs.YtmbejakmeijcbaaGreat
/- Cyclotomic fields in the program: a field's facts; monomials, images, normal forms. -/
namespace Go.Proofs.YtmbejakmeijcbaaGreat
open Go.RowKit
namespace Rf
structure Cy (n d : Nat) (φ : List Int) (T : List (List Int)) : Prop where
 tab : Q.Tab n d (Q.fr φ) T
 unit : Q.unitB n d φ T = true
 sum : Q.sumB n d T = true
 dist : Q.distB n d T = true
 bd : ∀ k j, Bd 1 255 (Q.fr (Q.row T k) j)
 len : ∀ i, zlen (Z.gl φ i) ≤ 2
 fk : Fk (d + 1) (fun i => ofZ (Z.gl φ i)) d (Q.fr φ)
 fld : FnOK Tryz.prog true 31 [.c (.int .i64 n)] (.t2 (.g [nl (d + 1) (Z.gl φ)]) (.c (.int .i64 0)))
 chk : FnOK Tryz.prog true 42 [.c (.int .i64 n)] (.c (.int .i64 0))
 pol : FnOK Tryz.prog false 47 [.c (.int .i64 n)] (.c (nl (d + 1) (Z.gl φ)))
 fails : FnOK Tryz.prog false 11 [.c (.int .i64 n)] (.c (.int .i64 0))
def tinyL (l : List Int) : Bool := l.all fun x => decide (x.natAbs ≤ 255)
theorem tinyL_bd {l : List Int} (h : tinyL l = true) (j : Nat) : (l.getD j 0).natAbs ≤ 255 := by
 rw [List.getD_eq_getElem?_getD]
 cases hx : l[j]? with
 | none => exact Nat.zero_le _
 | some x => exact of_decide_eq_true (List.all_eq_true.1 h x (List.mem_of_getElem? hx))
theorem tiny_bd {l : List Int} (h : tinyL l = true) (j : Nat) : Bd 1 255 (Q.fr l j) := (Bd.int (l.getD j 0)).mono (tinyL_bd h j)
def tinyT (T : List (List Int)) : Bool := T.all tinyL
theorem tinyT_bd {T : List (List Int)} (h : tinyT T = true) (k j : Nat) : Bd 1 255 (Q.fr (Q.row T k) j) := by
 show Bd 1 255 (Q.fr (T.getD k []) j)
 rw [List.getD_eq_getElem?_getD]
 cases hx : T[k]? with
 | none => exact Bd.zero _ _
 | some l => exact tiny_bd (List.all_eq_true.1 h l (List.mem_of_getElem? hx)) j
def tinyP (d : Nat) (φ : List Int) : Bool := tinyL φ && (φ.length == d + 1) && (φ.getD d 0 == 1)
set_option maxHeartbeats 4000000 in
theorem fld_ok {n : Int} {d : Nat} {v : Nat → Int} (hc : FnOK Tryz.prog true 42 [.c (.int .i64 n)] (.c (.int .i64 0))) (hp : FnOK Tryz.prog true 35 [.c (.int .i64 n)] (.t2 (.c (nl (d + 1) v)) (.c (.int .i64 0)))) : FnOK Tryz.prog true 31 [.c (.int .i64 n)] (.t2 (.g [nl (d + 1) v]) (.c (.int .i64 0))) := by
 refine fn_ok (E := E1) E1_ok Tryz.func31 rfl mixed (by kernel_rfl) (by kernel_rfl) ?_
 conv => whnf
 refine ⟨_, hc, ?_⟩
 conv => whnf
 refine ⟨_, hp, ?_⟩
 conv => whnf
 exact ⟨rfl, Sub.refl _⟩
set_option maxHeartbeats 4000000 in
theorem nNormal_ok {n d N T : Nat} {c : Nat → RawZ} {f r : Nat → Rat} {q : Nat → RawR} (ho : FnOK Tryz.prog true 89 [.g [zl n c]] (.t2 (ringP d f) (.c (.int .i64 0)))) (hr : FnOK Tryz.prog true 108 [ringP d f, .c (ql N q)] (.c (nql T r))) : FnOK Tryz.prog true 76 [.g [zl n c], .c (ql N q)] (.t2 (.c (nql T r)) (.c (.int .i64 0))) := by
 refine fn_ok (E := E1) E1_ok Tryz.func76 rfl mixed (by kernel_rfl) (by kernel_rfl) ?_
 conv => whnf
 refine ⟨_, ho, ?_⟩
 conv => whnf
 refine ⟨_, hr, ?_⟩
 conv => whnf
 exact ⟨rfl, Sub.refl _⟩
theorem pow_e {e n : Nat} (hn : n ≤ 64) : 2 ^ e * (1 + 255) ^ n ≤ 2 ^ (e + 512) := by
 rw [pow_c]
 exact Nat.pow_le_pow_right (by decide) (by omega)
theorem nNormal_r {n d N D e : Nat} {c : Nat → RawZ} {f A r : Nat → Rat} {q : Nat → RawR} (hk : Fk n c d f) (hA : Q.qx N (fun i => (q i).val) = A) (hN : N ≤ 64) (hq : ∀ i, i < N → (q i).Fit KD) (hb : ∀ k, Bd D (2 ^ e) (A k)) (h0 : 0 < D) (hD : D ≤ 2 ^ 1000000) (he : e ≤ 100000) (hr : Q.Rm d f A r) : (∀ k, Bd D (2 ^ (e + 512)) (r k)) ∧ FnOK Tryz.prog true 76 [.g [zl n c], .c (ql N q)] (.t2 (.c (nql (Q.tq r d) r)) (.c (.int .i64 0))) := by
 obtain ⟨s, s1, s2, s3⟩ := rnormal_ok hk.fd hA hN hq h0 (le_lim hD) hb (Nat.lt_of_le_of_lt (pow_e hN) (two_lt (by omega)))
 have e1 : r = s := funext (hr.eq hk.fd.mon s1)
 rw [e1]
 exact ⟨fun k => (s2 k).mono (pow_e hN), nNormal_ok hk.opn s3⟩
theorem nAdd_r {n d N M D e : Nat} {c : Nat → RawZ} {f A B r : Nat → Rat} {q p : Nat → RawR} (hk : Fk n c d f) (hA : Ev N q A D e) (hB : Ev M p B D e) (h0 : 0 < D) (hD : D ≤ 2 ^ 1000000) (he : e ≤ 100000) (hr : Q.Rm d f (fun k => A k + B k) r) : FnOK Tryz.prog true 87 [.g [zl n c], .c (ql N q), .c (ql M p)] (.t2 (.c (nql (Q.tq r d) r)) (.c (.int .i64 0))) := by
 obtain ⟨s, s1, _, s3⟩ := nAdd_e hk hA hB h0 hD he
 have e1 : r = s := funext (hr.eq hk.fd.mon s1)
 rw [e1]
 exact s3
def mq (K : Nat) (c : Rat) (i : Nat) : RawR := if i = K then ofR c else zraw
theorem mq_val (K : Nat) (c : Rat) : Q.qx (K + 1) (fun i => (mq K c i).val) = fun j => c * Q.xp K j := funext fun j => by
 by_cases e : j = K
 ·subst e
  show (if j < j + 1 then (if j = j then ofR c else zraw).val else 0) = c * (if j = j then 1 else 0)
  rw [if_pos (by omega), if_pos rfl, if_pos rfl, ofR_val, Rat.mul_one]
 ·show (if j < K + 1 then (if j = K then ofR c else zraw).val else 0) = c * (if j = K then 1 else 0)
  rw [if_neg e, if_neg e, Rat.mul_zero, zraw_val]
  split <;> rfl
theorem mq_fit {K i : Nat} {c : Rat} {L : Nat} (h : qlen c ≤ L) : (mq K c i).Fit L := by
 unfold mq
 split
 ·exact ofR_fit h
 ·exact zraw_fit L
theorem mq_cells {K q x j : Nat} {c : Rat} {bl : List Blk} {ks : List (Option Nat)} (hj : j < 4) : regC q bl ks (qlF (mq K c) x j) fun y => updF (fun _ j => zcells.getD j .any) K 0 (nq c) x j = y := by
 by_cases e : x = K
 ·subst e
  refine regE ?_ (ql_clos (c := mq x c) x j)
  exact updG (sz := 4) (g := fun _ => zcells) (g' := fun i => if i = x then nq c else zcells) (l := nq c) rfl hj (by rw [if_pos rfl]) |>.trans (by
   unfold qlF mq
   rw [if_pos rfl, if_pos rfl])
 ·have h1 : updF (fun _ j => zcells.getD j .any) K 0 (nq c) x j = zcells.getD j .any := updG (sz := 4) (g := fun _ => zcells) (g' := fun _ => zcells) (l := nq c) rfl hj (if_neg e)
  unfold qlF mq
  rw [if_neg e]
  match j, hj with
  | 0, _ => exact ⟨_, h1, rfl⟩
  | 1, _ => exact .inr (.inl ⟨rfl, h1⟩)
  | 2, _ => exact ⟨_, h1, rfl⟩
  | 3, _ => exact .inr (.inl ⟨rfl, h1⟩)
theorem mono_bd {D e K : Nat} {c : Rat} (h : Bd D (2 ^ e) c) (j : Nat) : Bd D (2 ^ e) (c * Q.xp K j) := by
 unfold Q.xp
 split
 ·rw [Rat.mul_one]; exact h
 ·rw [Rat.mul_zero]; exact Bd.zero _ _
def mn (n : Nat) (T : List (List Int)) (c : Rat) (k : Int) (j : Nat) : Rat := c * Q.fr (Q.row T (k % (n : Int)).toNat) j
theorem Cy.mn_rm {n d : Nat} {φ : List Int} {T : List (List Int)} (C : Cy n d φ T) (c : Rat) (k : Int) : Q.Rm d (Q.fr φ) (fun j => c * Q.xp (k % (n : Int)).toNat j) (mn n T c k) := by
 have h := C.tab.rm (k % (n : Int)).toNat
 have hn := C.tab.n1
 rw [Nat.mod_eq_of_lt (by have := Int.emod_lt_of_pos k (show (0 : Int) < n by omega); omega)] at h
 exact h.smul c
theorem Cy.mn_fin {n d : Nat} {φ : List Int} {T : List (List Int)} (C : Cy n d φ T) (c : Rat) (k : Int) : Q.Fin d (mn n T c k) := (C.mn_rm c k).1
set_option maxHeartbeats 8000000 in
theorem Cy.mono_ok {n d D e : Nat} {φ : List Int} {T : List (List Int)} (C : Cy n d φ T) {k : Int} {c : Rat} (hc : Bd D (2 ^ e) c) (h0 : 0 < D) (hD : D ≤ 2 ^ 1000000) (he : e ≤ 100000) : FnOK Tryz.prog true 43 [.c (.int .i64 n), .c (.int .i64 k), .g (nq c)] (.c (nql (Q.tq (mn n T c k) d) (mn n T c k))) := by
 have n1 := C.tab.n1
 have n2 := C.tab.n2
 have e0 := Int.emod_lt_of_pos k (show (0 : Int) < n by omega)
 have e1 := Int.emod_nonneg k (show (n : Int) ≠ 0 by omega)
 obtain ⟨K, hK⟩ : ∃ K : Nat, K = (k % (n : Int)).toNat := ⟨_, rfl⟩
 have t0 := @Int.emod_eq_tmod k n
 have t1 : Int.tmod k n < 0 → Int.tmod k n + n = (K : Int) := fun h => by
  split at t0 <;> omega
 have t2 : ¬ Int.tmod k n < 0 → Int.tmod k n = (K : Int) := fun h => by
  split at t0 <;> omega
 have t3 : -(n : Int) < Int.tmod k n ∧ Int.tmod k n < n := ⟨by have := Int.lt_tmod_of_pos k (show (0 : Int) < n by omega); omega, Int.tmod_lt_of_pos k (by omega)⟩
 have hr := C.mn_rm c k
 rw [← hK] at hr
 have hN := (nNormal_r (N := K + 1) (q := mq K c) C.fk (mq_val K c) (by omega) (fun i _ => mq_fit (bd_fit hc h0 (le_lim hD) (two_lt (by omega)))) (mono_bd hc) h0 hD he hr).2
 have hF := C.fld
 clear hr hc t0
 generalize mn n T c k = r at *
 generalize Q.tq r d = L at *
 generalize Z.gl φ = P at *
 clear C
 rcases Classical.em (Int.tmod k n < 0) with h | h
 all_goals
  refine fn_okS (E := E1) E1_ok Tryz.func43 rfl (by kernel_rfl) ?_
  refine swp_seq0 E1_ok mixed (by kernel_rfl) ?_
  conv => whnf
  refine swp_seq0 E1_ok mixed (by kernel_rfl) ?_
  conv => whnf
  refine ⟨_, hF, ?_⟩
  conv => whnf
  refine swp_seq E1_ok mixed (by kernel_rfl) ?_
  conv => whnf
  refine ⟨by omega, ?_⟩
  conv => whnf
  first
   |refine bpos (show decide (Int.tmod k n < 0) = true from decide_eq_true h) ?_
    conv => whnf
    refine ⟨i64 (by omega) (by omega), ?_⟩
    conv => whnf
   |refine bneg (show decide (Int.tmod k n < 0) = false from decide_eq_false h) ?_
    conv => whnf
  refine ⟨gst [(1, .c (.int .i64 (K : Int))), (5, .c (.p 0 0 4 0 0)), (7, .c (.p 1 0 1 0 0))] [⟨46, 4, 1, boxF (nq c)⟩, ⟨34, 1, 1, boxF [nl (d + 1) P]⟩], Weak.gen [some 0, some 1] rfl ⟨boxK rfl rfl, boxU rfl rfl rfl, trivial⟩ ⟨⟨_, rfl, by first | exact t1 h | exact t2 h⟩, ⟨_, rfl, rfl, rfl⟩, ⟨_, rfl, rfl, rfl⟩, trivial⟩, ?_⟩
  refine swp_seq0 E1_ok mixed (by kernel_rfl) ?_
  conv => whnf
  refine ⟨i64 (by omega) (by omega), ?_⟩
  conv => whnf
  refine ⟨by omega, Int.le_refl _, by omega, by show (64 : Int) * ((K : Int) + 1) ≤ 281474976710656; omega, ?_⟩
  conv => whnf
  refine swp_seq E1_ok mixed (by kernel_rfl) ?_
  conv => whnf
  refine ⟨by omega, by show (K : Int) < (((K : Int) + 1).toNat : Int); omega, ?_⟩
  conv => whnf
  refine ⟨gst [(7, .c (.p 0 0 1 0 0)), (9, .c (.gs 1 0))] [⟨34, 1, 1, boxF [nl (d + 1) P]⟩, gqr (K + 1) (mq K c)], Weak.gen [some 1, some 2] rfl ⟨boxK rfl rfl, ⟨_, rfl, rfl, rfl, by show ((K : Int) + 1).toNat = K + 1; omega, rfl, fun x j hx hj => ?_⟩, trivial⟩ ⟨⟨_, rfl, rfl, rfl⟩, ⟨_, rfl, rfl, rfl⟩, trivial⟩, ?_⟩
  ·exact mq_cells (K := K) (c := c) hj
  refine swp_seq0 E1_ok mixed (by kernel_rfl) ?_
  conv => whnf
  refine ⟨fun i j _ _ => ql_clos (c := mq K c) i j, ?_⟩
  conv => whnf
  refine ⟨_, hN, ?_⟩
  conv => whnf
  refine swp_of E1_ok mixed (by kernel_rfl) ?_
  conv => whnf
  exact ⟨rfl, Sub.refl _⟩
theorem im_bd {n d t m D e : Nat} {φ : List Int} {T : List (List Int)} (C : Cy n d φ T) {A : Nat → Rat} (hm : m ≤ 16) (hA : ∀ k, Bd D (2 ^ e) (A k)) (j : Nat) : Bd D (2 ^ (e + 12)) (Q.im n t m T A j) := by
 have h1 : ∀ i, Bd D (2 ^ e * 255) (A i * Q.fr (Q.row T (i * t % n)) j) := fun i => by
  have := (hA i).mul (C.bd (i * t % n) j)
  rwa [Nat.mul_one] at this
 refine (su_bd h1 m).mono ?_
 have h2 : m * (2 ^ e * 255) ≤ 2 ^ 12 * 2 ^ e := by
  rw [Nat.mul_comm (2 ^ e), ← Nat.mul_assoc]
  exact Nat.mul_le_mul_right _ (by omega)
 rwa [← Nat.pow_add, Nat.add_comm] at h2
theorem mn_eq (n t i : Nat) (T : List (List Int)) (c : Rat) : mn n T c ((i : Int) * (t : Int)) = fun j => c * Q.fr (Q.row T (i * t % n)) j := funext fun j => by
 unfold mn
 rw [show (((i : Int) * (t : Int)) % (n : Int)).toNat = i * t % n by rw [← Int.natCast_mul, ← Int.natCast_emod, Int.toNat_natCast]]
set_option maxHeartbeats 8000000 in
theorem Cy.image_ok {n d t N D e : Nat} {φ : List Int} {T : List (List Int)} (C : Cy n d φ T) {r : Nat → Rat} (ht : t ≤ 1000) (hN : N ≤ 16) (hr : ∀ k, Bd D (2 ^ e) (r k)) (h0 : 0 < D) (hD : D ≤ 2 ^ 1000000) (he : e ≤ 50000) : FnOK Tryz.prog true 55 [.c (.int .i64 n), .c (.int .i64 t), .c (nql N r)] (.c (nql (Q.tq (Q.im n t N T r) d) (Q.im n t N T r))) := by
 have hd := C.tab.d2
 have hmo : ∀ i, FnOK Tryz.prog true 43 [.c (.int .i64 n), .c (.int .i64 ((i : Nat) * (t : Int))), .g (nq (r i))] (.c (nql (Q.tq (mn n T (r i) ((i : Int) * t)) d) (mn n T (r i) ((i : Int) * t)))) := fun i => C.mono_ok (hr i) h0 hD (by omega)
 have hz : Q.tq (Q.im n t 0 T r) d = 0 := tq_zero (fun _ => rfl) d
 have had : ∀ i, i < N → FnOK Tryz.prog true 87 [.g [nl (d + 1) (Z.gl φ)], .c (nql (Q.tq (Q.im n t i T r) d) (Q.im n t i T r)), .c (nql (Q.tq (mn n T (r i) ((i : Int) * t)) d) (mn n T (r i) ((i : Int) * t)))] (.t2 (.c (nql (Q.tq (Q.im n t (i + 1) T r) d) (Q.im n t (i + 1) T r))) (.c (.int .i64 0))) := fun i hi => by
  have b1 : ∀ k, Bd D (2 ^ (e + 12)) (mn n T (r i) ((i : Int) * t) k) := fun k => by
   rw [mn_eq]
   have := (hr i).mul (C.bd (i * t % n) k)
   rw [Nat.mul_one] at this
   refine this.mono ?_
   rw [Nat.pow_add]
   exact Nat.mul_le_mul_left _ (by decide)
  have ev1 := ev_n (C.tab.im_fin t i r) hd (im_bd C (by omega) hr) h0 hD (by omega)
  have ev2 := ev_n (C.mn_fin (r i) ((i : Int) * t)) hd b1 h0 hD (by omega)
  refine nAdd_r C.fk ev1 ev2 h0 hD (by omega) ((Q.Rm.self (C.tab.im_fin t (i + 1) r)).congr fun k => ?_)
  rw [mn_eq]
  rfl
 have hF := C.fld
 have n2 := C.tab.n2
 clear hr C
 generalize (fun i => mn n T (r i) ((i : Int) * t)) = M at *
 obtain ⟨S, hS⟩ : ∃ S : Nat → Nat → Rat, S = fun i => Q.im n t i T r := ⟨_, rfl⟩
 have had : ∀ i, i < N → FnOK Tryz.prog true 87 [.g [nl (d + 1) (Z.gl φ)], .c (nql (Q.tq (S i) d) (S i)), .c (nql (Q.tq (mn n T (r i) ((i : Int) * t)) d) (mn n T (r i) ((i : Int) * t)))] (.t2 (.c (nql (Q.tq (S (i + 1)) d) (S (i + 1)))) (.c (.int .i64 0))) := by rw [hS]; exact had
 have hz : Q.tq (S 0) d = 0 := by rw [hS]; exact hz
 have hE : Q.im n t N T r = S N := by rw [hS]
 rw [hE]
 clear hE hS
 generalize Z.gl φ = P at *
 refine fn_okS (E := E1) E1_ok Tryz.func55 rfl (by kernel_rfl) ?_
 refine swp_seq0 E1_ok mixed (by kernel_rfl) ?_
 conv => whnf
 refine swp_seq0 E1_ok mixed (by kernel_rfl) ?_
 conv => whnf
 refine ⟨_, hF, ?_⟩
 conv => whnf
 refine swp_seq0 E1_ok mixed (by kernel_rfl) ?_
 conv => whnf
 refine swp_of E1_ok mixed (by kernel_rfl) ?_
 conv => whnf
 refine loop_ints (fun i : Nat => gst [(0, .c (.int .i64 n)), (1, .c (.int .i64 t)), (7, .c (.p 0 0 1 0 0)), (9, .c (nql (Q.tq (S i) d) (S i))), (17, .c (nql N r)), (18, .c (.int .i64 N)), (19, .c (.int .i64 i))] [⟨34, 1, 1, boxF [nl (d + 1) P]⟩]) (fun i => N - i) (fun i => i ≤ N) 0 rfl (Weak.gen [some 0] rfl ⟨boxU rfl rfl rfl, trivial⟩ ⟨⟨_, rfl, rfl⟩, ⟨_, rfl, rfl⟩, ⟨_, rfl, rfl, rfl⟩, .inr (.inl ⟨hz, rfl⟩), .inl ⟨_, _, rfl, rfl, fun _ _ _ _ => rfl⟩, ⟨_, rfl, rfl⟩, ⟨_, rfl, rfl⟩, trivial⟩) (Nat.zero_le _) fun i hi => ?_
 have hmo := hmo i
 have had := had i
 conv => whnf
 refine bcase (fun (h : decide ((i : Int) < N) = true) => ?_) fun (h : decide ((i : Int) < N) = false) => ?_
 ·have h := of_decide_eq_true h
  have had := had (by omega)
  have hp : (i : Int) * (t : Int) ≤ 16 * 1000 := Int.mul_le_mul (by omega) (by omega) (by omega) (by omega)
  have hp0 : 0 ≤ (i : Int) * (t : Int) := Int.mul_nonneg (by omega) (by omega)
  conv => whnf
  refine ⟨by omega, by omega, ?_⟩
  conv => whnf
  refine ⟨i64 (by omega) (by omega), ?_⟩
  conv => whnf
  refine ⟨_, hmo, ?_⟩
  conv => whnf
  refine ⟨_, had, ?_⟩
  conv => whnf
  refine ⟨i64 (by omega) (by omega), ?_⟩
  conv => whnf
  exact ⟨i + 1, by omega, Weak.gen [some 0] rfl ⟨boxK rfl rfl, trivial⟩ ⟨⟨_, rfl, rfl⟩, ⟨_, rfl, rfl⟩, ⟨_, rfl, rfl, rfl⟩, .inl ⟨_, _, rfl, rfl, fun _ _ _ _ => rfl⟩, .inl ⟨_, _, rfl, rfl, fun _ _ _ _ => rfl⟩, ⟨_, rfl, rfl⟩, ⟨_, rfl, rfl⟩, trivial⟩, by omega⟩
 ·have h := of_decide_eq_false h
  have g : Sub (.c (nql (Q.tq (S i) d) (S i))) (.c (nql (Q.tq (S N) d) (S N))) := by rw [show i = N by omega]; exact Sub.refl _
  conv => whnf
  exact ⟨rfl, g⟩
set_option maxHeartbeats 4000000 in
theorem Cy.normal_ok {n d N D e : Nat} {φ : List Int} {T : List (List Int)} (C : Cy n d φ T) {A r : Nat → Rat} {q : Nat → RawR} (hA : Ev N q A D e) (h0 : 0 < D) (hD : D ≤ 2 ^ 1000000) (he : e ≤ 50000) (hr : Q.Rm d (Q.fr φ) A r) : FnOK Tryz.prog true 45 [.c (.int .i64 n), .c (ql N q)] (.c (nql (Q.tq r d) r)) := by
 have hN := (nNormal_r C.fk hA.val (by have := hA.len; omega) hA.fit hA.bd h0 hD (by omega) hr).2
 have hF := C.fld
 clear hr hA C
 generalize Q.tq r d = L at *
 generalize Z.gl φ = P at *
 refine fn_ok (E := E1) E1_ok Tryz.func45 rfl mixed (by kernel_rfl) (by kernel_rfl) ?_
 conv => whnf
 refine ⟨_, hF, ?_⟩
 conv => whnf
 refine ⟨_, hN, ?_⟩
 conv => whnf
 exact ⟨rfl, Sub.refl _⟩
set_option maxHeartbeats 4000000 in
theorem Cy.zeta_ok {n d : Nat} {φ : List Int} {T : List (List Int)} (C : Cy n d φ T) (k : Int) : FnOK Tryz.prog true 12 [.c (.int .i64 n), .c (.int .i64 k)] (.t2 (.c (nql (Q.tq (mn n T 1 k) d) (mn n T 1 k))) (.c (.int .i64 0))) := by
 have hm := C.mono_ok (k := k) (c := 1) (D := 1) (e := 0) (Bd.int 1) (by decide) (one_le_pow2 1000000) (by decide)
 have ho := qof_one
 have hc := C.chk
 clear C
 generalize mn n T 1 k = r at *
 generalize Q.tq r d = L at *
 refine fn_ok (E := E1) E1_ok Tryz.func12 rfl mixed (by kernel_rfl) (by kernel_rfl) ?_
 conv => whnf
 refine ⟨_, hc, ?_⟩
 conv => whnf
 refine ⟨_, ho, ?_⟩
 conv => whnf
 refine ⟨_, hm, ?_⟩
 conv => whnf
 exact ⟨rfl, Sub.refl _⟩
end Rf
end Go.Proofs.YtmbejakmeijcbaaGreat
/- Cyclotomic fields in the program: conjugates, lifts, rational numbers, roots of unity. -/
namespace Go.Proofs.YtmbejakmeijcbaaGreat
open Go.RowKit
namespace Rf
set_option maxHeartbeats 4000000 in
theorem agcd_ok {a b : Nat} (ha : a ≤ 1000000) (hb : b ≤ 1000000) : FnOK Tryz.prog true 54 [.c (.int .i64 a), .c (.int .i64 b)] (.c (.int .i64 (Nat.gcd a b : Nat))) := by
 refine fn_ok (E := E1) E1_ok Tryz.func54 rfl mixed (by kernel_rfl) (by kernel_rfl) ?_
 conv => whnf
 refine loop_ints (fun x : Nat × Nat => gst [(0, .c (.int .i64 x.1)), (1, .c (.int .i64 x.2))] []) (fun x => x.2) (fun x => x.1 ≤ 1000000 ∧ x.2 ≤ 1000000 ∧ Nat.gcd x.1 x.2 = Nat.gcd a b) (a, b) rfl (Weak.gen [] rfl trivial ⟨⟨_, rfl, rfl⟩, ⟨_, rfl, rfl⟩, trivial⟩) ⟨ha, hb, rfl⟩ ?_
 intro ⟨u, v⟩ ⟨hu, hv, hg⟩
 conv => whnf
 refine bcase (fun (h : (!decide ((v : Int) = 0)) = true) => ?_) fun (h : (!decide ((v : Int) = 0)) = false) => ?_
 ·have h : v ≠ 0 := by rintro rfl; simp at h
  have hlt := Nat.mod_lt u (Nat.pos_of_ne_zero h)
  have hr : Int.tmod (u : Int) (v : Int) = ((u % v : Nat) : Int) := by rw [Int.natCast_emod]; exact Int.tmod_eq_emod_of_nonneg (by omega)
  conv => whnf
  refine ⟨by omega, ?_⟩
  conv => whnf
  exact ⟨(v, u % v), hlt, Weak.gen [] rfl trivial ⟨⟨_, rfl, rfl⟩, ⟨_, rfl, hr⟩, trivial⟩, hv, by show u % v ≤ _; omega, by show Nat.gcd v (u % v) = _; rw [← hg, Nat.gcd_comm u v, Nat.gcd_rec v u, Nat.gcd_comm]⟩
 ·have h : v = 0 := by
   have : (v : Int) = 0 := by simpa using h
   omega
  have hg : u = Nat.gcd a b := by rw [← hg, h, Nat.gcd_zero_right]
  conv => whnf
  refine ⟨rfl, Sub.int ?_⟩
  rw [← hg]
  have hw : IntKind.i64.wrap (-((u : Nat) : Int)) = -((u : Nat) : Int) := inR_wrap (i64 (by omega) (by omega))
  have hu : u ≤ 1000000 := hu
  show (if (0 : Int) > (if IntKind.i64.wrap (-((u : Nat) : Int)) > (u : Int) then IntKind.i64.wrap (-((u : Nat) : Int)) else (u : Int)) then (0 : Int) else if IntKind.i64.wrap (-((u : Nat) : Int)) > (u : Int) then IntKind.i64.wrap (-((u : Nat) : Int)) else (u : Int)) = u
  rw [hw]
  split <;> split <;> omega
abbrev rs (t : Int) (n : Nat) : Nat := (t % (n : Int)).toNat
theorem rs_lt (t : Int) {n : Nat} (h : 1 ≤ n) : rs t n < n := by
 have := Int.emod_lt_of_pos t (show (0 : Int) < n by omega)
 have := Int.emod_nonneg t (show (n : Int) ≠ 0 by omega)
 show (t % (n : Int)).toNat < n
 omega
theorem tmod_rs {t : Int} {n : Nat} (h : 1 ≤ n) : (Int.tmod t n < 0 → Int.tmod t n + n = (rs t n : Nat)) ∧ (¬ Int.tmod t n < 0 → Int.tmod t n = (rs t n : Nat)) ∧ -(n : Int) < Int.tmod t n ∧ Int.tmod t n < n := by
 have e0 := Int.emod_lt_of_pos t (show (0 : Int) < n by omega)
 have e1 := Int.emod_nonneg t (show (n : Int) ≠ 0 by omega)
 have t0 := @Int.emod_eq_tmod t n
 have t3 := Int.lt_tmod_of_pos t (show (0 : Int) < n by omega)
 have t4 := Int.tmod_lt_of_pos t (show (0 : Int) < n by omega)
 obtain ⟨K, hK⟩ : ∃ K, K = rs t n := ⟨_, rfl⟩
 have hK' : K = (t % (n : Int)).toNat := hK
 rw [← hK]
 refine ⟨fun h => ?_, fun h => ?_, by omega, t4⟩
 ·split at t0 <;> omega
 ·split at t0 <;> omega
set_option maxHeartbeats 8000000 in
theorem Cy.galois_ok {n d N D e : Nat} {φ : List Int} {T : List (List Int)} (C : Cy n d φ T) {t : Int} {A r : Nat → Rat} {q : Nat → RawR} (hA : Ev N q A D e) (h0 : 0 < D) (hD : D ≤ 2 ^ 1000000) (he : e ≤ 40000) (hr : Q.Rm d (Q.fr φ) A r) (hg : Nat.gcd (rs t n) n = 1) : FnOK Tryz.prog true 24 [.c (.int .i64 n), .c (.int .i64 t), .c (ql N q)] (.t2 (.c (nql (Q.tq (Q.im n (rs t n) d T r) d) (Q.im n (rs t n) d T r))) (.c (.int .i64 0))) := by
 have n1 := C.tab.n1
 have n2 := C.tab.n2
 have hK := rs_lt t n1
 obtain ⟨t1, t2, t3⟩ := tmod_rs (t := t) n1
 have hd := C.tab.d2
 have hb := (nNormal_r C.fk hA.val (by have := hA.len; omega) hA.fit hA.bd h0 hD (by omega) hr).1
 have hn := C.normal_ok hA h0 hD (by omega) hr
 have hi := C.image_ok (t := rs t n) (N := Q.tq r d) (r := r) (by omega) (by have := Q.tq_le r d; omega) hb h0 hD (by omega)
 rw [show Q.im n (rs t n) (Q.tq r d) T r = Q.im n (rs t n) d T r from (Q.im_more (Q.tq_fin hr.1) (Q.tq_le r d)).symm] at hi
 have hG := agcd_ok (a := rs t n) (b := n) (by omega) (by omega)
 rw [hg] at hG
 have hc := C.chk
 clear hr hA hb C
 generalize rs t n = K at *
 generalize Q.im n K d T r = s at *
 generalize Q.tq s d = M at *
 generalize Q.tq r d = L at *
 rcases Classical.em (Int.tmod t n < 0) with h | h
 all_goals
  refine fn_okS (E := E1) E1_ok Tryz.func24 rfl (by kernel_rfl) ?_
  refine swp_seq0 E1_ok mixed (by kernel_rfl) ?_
  conv => whnf
  refine swp_seq0 E1_ok mixed (by kernel_rfl) ?_
  conv => whnf
  refine ⟨_, hc, ?_⟩
  conv => whnf
  refine swp_seq E1_ok mixed (by kernel_rfl) ?_
  conv => whnf
  refine ⟨by omega, ?_⟩
  conv => whnf
  first
   |refine bpos (show decide (Int.tmod t n < 0) = true from decide_eq_true h) ?_
    conv => whnf
    refine ⟨i64 (by omega) (by omega), ?_⟩
    conv => whnf
   |refine bneg (show decide (Int.tmod t n < 0) = false from decide_eq_false h) ?_
    conv => whnf
  refine ⟨gst [(0, .c (.int .i64 n)), (1, .c (.int .i64 (K : Int))), (2, .c (ql N q))] [], Weak.gen [] rfl trivial ⟨⟨_, rfl, rfl⟩, ⟨_, rfl, by first | exact t1 h | exact t2 h⟩, .inl ⟨_, _, rfl, rfl, fun _ _ _ _ => rfl⟩, trivial⟩, ?_⟩
  refine swp_of E1_ok mixed (by kernel_rfl) ?_
  conv => whnf
  refine ⟨_, hG, ?_⟩
  conv => whnf
  refine ⟨_, hn, ?_⟩
  conv => whnf
  refine ⟨_, hi, ?_⟩
  conv => whnf
  exact ⟨rfl, Sub.refl _⟩
end Rf
end Go.Proofs.YtmbejakmeijcbaaGreat
/- Cyclotomic fields in the program: equal elements, roots of unity, rational numbers, conjugates, lifts. -/
namespace Go.Proofs.YtmbejakmeijcbaaGreat
open Go.RowKit
namespace Rf
theorem nf_same {d : Nat} {v w : Nat → Rat} (hv : Q.Fin d v) (hw : Q.Fin d w) : (Q.tq v d = Q.tq w d ∧ ∀ i, i < Q.tq v d → v i = w i) ↔ ∀ i, v i = w i := by
 refine ⟨fun ⟨a, b⟩ i => ?_, fun h => ?_⟩
 ·rcases Nat.lt_or_ge i (Q.tq v d) with c | c
  ·exact b i c
  ·rw [Q.tq_fin hv i c, Q.tq_fin hw i (by omega)]
 ·have e : v = w := funext h
  subst e
  exact ⟨rfl, fun _ _ => rfl⟩
end Rf
end Go.Proofs.YtmbejakmeijcbaaGreat
/- The document's elements: the same or not; normal forms, sums and products in a field; monomials and images. -/
namespace Go.Proofs.YtmbejakmeijcbaaGreat
open Go.RowKit
namespace Rf
set_option maxHeartbeats 4000000 in
theorem same06_b {n m : Nat} {v w : Nat → Rat} {r : Bool} (hn : n ≤ 4096) (h : ∀ i, qlen (v i) ≤ 524286) (hr : r = true ↔ n = m ∧ ∀ i, i < n → v i = w i) : FnOK Tryz.prog false 49 [.c (nql n v), .c (nql m w)] (.c (.bool r)) := by
 have s1 : ∀ i, FnOK Tryz.prog false 23 [.g (nq (v i)), .g (nq (w i))] (.c (.bool (decide (v i = w i)))) := fun i => rqsame_n (h i)
 have r0 : n ≠ m → false = r := fun a => (Bool.eq_false_iff.2 fun e => a (hr.1 e).1).symm
 have r1 : ∀ i, n = m → i < n → v i ≠ w i → false = r := fun i _ b c => (Bool.eq_false_iff.2 fun e => c ((hr.1 e).2 i b)).symm
 have r2 : n = m → (∀ i, i < n → v i = w i) → true = r := fun a b => (hr.2 ⟨a, b⟩).symm
 clear h hr
 refine fn_ok (E := E0) E0_ok Tryz.func49 rfl mixed (by kernel_rfl) (by kernel_rfl) ?_
 conv => whnf
 refine bcase (fun (h : (!decide ((n : Int) = m)) = true) => ?_) fun (h : (!decide ((n : Int) = m)) = false) => ?_
 ·have h := r0 fun e => by subst e; simp at h
  conv => whnf
  exact ⟨rfl, sub_bool h⟩
 have h : n = m := by
  have : (n : Int) = m := by simpa using h
  omega
 have r1 := fun i => r1 i h
 have r2 := r2 h
 conv => whnf
 refine loop_ints (fun i : Nat => gst [(0, .c (nql n v)), (1, .c (nql m w)), (5, .c (.int .i64 i))] []) (fun i => n - i) (fun i => i ≤ n ∧ ∀ k, k < i → v k = w k) 0 rfl (Weak.gen [] rfl trivial ⟨.inl ⟨_, _, rfl, rfl, fun _ _ _ _ => rfl⟩, .inl ⟨_, _, rfl, rfl, fun _ _ _ _ => rfl⟩, ⟨_, rfl, rfl⟩, trivial⟩) ⟨Nat.zero_le _, fun k hk => by omega⟩ fun i ⟨hi, hk⟩ => ?_
 have s1 := s1 i
 have r1 := r1 i
 conv => whnf
 refine bcase (fun (h1 : decide ((i : Int) < n) = true) => ?_) fun (h1 : decide ((i : Int) < n) = false) => ?_
 ·have h1 := of_decide_eq_true h1
  have r1 := r1 (by omega)
  conv => whnf
  refine ⟨by omega, by omega, ?_⟩
  conv => whnf
  refine ⟨by omega, by omega, ?_⟩
  conv => whnf
  refine ⟨_, s1, ?_⟩
  conv => whnf
  refine bcase (fun (h2 : (!decide (v i = w i)) = true) => ?_) fun (h2 : (!decide (v i = w i)) = false) => ?_
  ·have h2 := r1 (by simpa using h2)
   conv => whnf
   exact ⟨rfl, sub_bool h2⟩
  ·have h2 : v i = w i := by simpa using h2
   conv => whnf
   refine ⟨i64 (by omega) (by omega), ?_⟩
   conv => whnf
   refine ⟨i + 1, by omega, Weak.gen [] rfl trivial ⟨.inl ⟨_, _, rfl, rfl, fun _ _ _ _ => rfl⟩, .inl ⟨_, _, rfl, rfl, fun _ _ _ _ => rfl⟩, ⟨_, rfl, rfl⟩, trivial⟩, by omega, fun k hk' => ?_⟩
   by_cases e : k = i
   ·rw [e]; exact h2
   ·exact hk k (by omega)
 ·have h1 := r2 fun k hk' => hk k (by have := of_decide_eq_false h1; omega)
  conv => whnf
  exact ⟨rfl, sub_bool h1⟩
set_option maxHeartbeats 4000000 in
theorem same14_b {n m : Nat} {v w : Nat → Rat} {r : Bool} (hn : n ≤ 4096) (h : ∀ i, qlen (v i) ≤ 524286) (hr : r = true ↔ n = m ∧ ∀ i, i < n → v i = w i) : FnOK Tryz.prog false 16 [.c (nql n v), .c (nql m w)] (.c (.bool r)) := by
 have s1 := same06_b hn h hr
 refine fn_ok (E := E0) E0_ok Tryz.func16 rfl mixed (by kernel_rfl) (by kernel_rfl) ?_
 conv => whnf
 refine ⟨_, s1, ?_⟩
 conv => whnf
 exact ⟨rfl, Sub.refl _⟩
open Classical in
theorem same14_e {d : Nat} {v w : Nat → Rat} (hv : Q.Fin d v) (hw : Q.Fin d w) (hd : d ≤ 4096) (h : ∀ i, qlen (v i) ≤ 524286) : FnOK Tryz.prog false 16 [.c (nql (Q.tq v d) v), .c (nql (Q.tq w d) w)] (.c (.bool (decide (∀ i, v i = w i)))) :=
 same14_b (by have := Q.tq_le v d; omega) h (by rw [decide_eq_true_iff]; exact (nf_same hv hw).symm)
structure Fr (d : Nat) (P : Nat → Int) (f : Nat → Rat) : Prop where
 mon : Q.Mon d f
 low : d ≤ 12
 pos : 1 ≤ d
 val : (fun i => ((P i : Int) : Rat)) = f
 len : ∀ i, zlen (P i) ≤ 2
theorem Fr.flen {d : Nat} {P : Nat → Int} {f : Nat → Rat} (h : Fr d P f) (i : Nat) : qlen (f i) ≤ 2 := by
 rw [← h.val]
 show max (zlen ((P i : Int) : Rat).num) (zlen ((((P i : Int) : Rat).den : Nat) : Int)) ≤ 2
 have h1 := h.len i
 rw [Rat.num_intCast, Rat.den_intCast]
 exact Nat.max_le.2 ⟨h1, by decide⟩
theorem Fr.of6 {d : Nat} {P : Nat → Int} {f : Nat → Rat} (h : Fr d P f) : FnOK Tryz.prog false 70 [.c (nl (d + 1) P)] (.c (nql (d + 1) f)) := by
 have hl := h.low
 have h1 := of6_ok (n := d + 1) (c := fun i => ofZ (P i)) (v := f) (by omega) (fun i _ => wr_nz (by have := h.len i; omega)) (by rw [← h.val]; funext i; rw [ofZ_val]) fun i _ => by have := h.flen i; omega
 rwa [Q.tq_self (n := d + 1) (v := f) fun k hk => by rw [show k = d by omega, h.mon.top]; decide] at h1
theorem Fr.divide {d n : Nat} {P : Nat → Int} {f A r : Nat → Rat} {q : Nat → RawR} {D e : Nat} (h : Fr d P f) (hC : ∀ j, Bd 1 255 (f j)) (hA : Q.qx n (fun i => (q i).val) = A) (hn : n ≤ 64) (hq : ∀ i, i < n → wq (q i)) (hb : ∀ k, Bd D (2 ^ e) (A k)) (h0 : 0 < D) (hD : D ≤ 2 ^ 100000) (he : e ≤ 100000) (hr : Q.Rm d f A r) : ∃ Y : Cell, (Y = .nil ∨ ∃ N u, Y = nql N u) ∧ FnOK Tryz.prog false 69 [.c (ql n q), .c (nql (d + 1) f)] (.t2 (.c Y) (.c (nql (Q.tq r d) r))) := by
 have hl := h.low
 have fA : Q.Fin n A := by rw [← hA]; exact Q.qx_fin _ _
 have hlen : ∀ k, qlen (A k) ≤ 65535 := fun k => bd_doc (hb k) h0 hD (by omega)
 have hvv : ∀ i, i < n → (q i).val = A i := fun i hi => by rw [← hA]; exact (Q.qx_lt (v := fun i => (q i).val) hi).symm
 have hm := Q.tq_le A n
 have e1 : r = Q.rst d f A (Q.tq A n) := funext (hr.eq h.mon (Q.rst_rm h.mon (Q.tq_fin fA)))
 have e2 := Q.rst_len h.mon (Q.tq_fin fA)
 rcases Nat.lt_or_ge d (Q.tq A n) with c | c
 ·have hs : ∀ t k, t ≤ Q.tq A n - d → qlen (Q.dvs d f (Q.tq A n - d) A t k) ≤ 65535 := fun t k ht => bd_doc ((Q.dvs_bd hb hC t k).mono (Nat.le_trans (Nat.mul_le_mul_left _ (Nat.pow_le_pow_right (by decide) (show t ≤ 64 by omega))) (pow_e (Nat.le_refl 64)))) h0 hD (by omega)
  have h2 := divide6_long h.mon (by omega) hvv hq (fun i _ => by have := hlen i; omega) rfl c hs (fun j => by have := h.flen j; omega)
  have e3 : Q.dvs d f (Q.tq A n - d) A (Q.tq A n - d) = r := e1.symm
  rw [e3] at h2
  have e4 : Q.tq r d = Q.tq r (Q.tq A n) := by rw [e1]; exact e2.symm
  rw [← e4] at h2
  exact ⟨_, .inr ⟨_, _, rfl⟩, h2⟩
 ·refine ⟨.nil, .inl rfl, ?_⟩
  have e3 : Q.rst d f A (Q.tq A n) = A := by
   unfold Q.rst
   rw [show Q.tq A n - d = 0 by omega]; rfl
  rw [e3] at e1
  subst e1
  have h2 := divide6_short (f := f) hvv (by omega) hq (fun i _ => by have := hlen i; omega) rfl c (fun j => by have := h.flen j; omega) h.mon (by omega)
  rw [show Q.tq r d = Q.tq r n from Q.tq_eq hr.1 fA]
  exact h2
set_option maxHeartbeats 4000000 in
theorem Fr.normal14 {d n : Nat} {P : Nat → Int} {f A r : Nat → Rat} {q : Nat → RawR} {D e : Nat} (h : Fr d P f) (hC : ∀ j, Bd 1 255 (f j)) (hA : Q.qx n (fun i => (q i).val) = A) (hn : n ≤ 64) (hq : ∀ i, i < n → wq (q i)) (hb : ∀ k, Bd D (2 ^ e) (A k)) (h0 : 0 < D) (hD : D ≤ 2 ^ 100000) (he : e ≤ 100000) (hr : Q.Rm d f A r) : FnOK Tryz.prog false 37 [.g [nl (d + 1) P], .c (ql n q)] (.c (nql (Q.tq r d) r)) := by
 obtain ⟨Y, hY, hd⟩ := h.divide hC hA hn hq hb h0 hD he hr
 have ho := h.of6
 clear hr hb hq hA hC h
 generalize Q.tq r d = L at *
 rcases hY with rfl | ⟨N, u, rfl⟩
 all_goals
  refine fn_ok (E := E0) E0_ok Tryz.func37 rfl mixed (by kernel_rfl) (by kernel_rfl) ?_
  conv => whnf
  refine ⟨_, ho, ?_⟩
  conv => whnf
  refine ⟨_, hd, ?_⟩
  conv => whnf
  exact ⟨rfl, Sub.refl _⟩
theorem bd_two {D e : Nat} {x y : Rat} (hx : Bd D (2 ^ e) x) (hy : Bd D (2 ^ e) y) : Bd D (2 ^ (e + 1)) (x + y) := by
 have := hx.add hy
 rwa [← Nat.two_mul, ← Nat.pow_succ'] at this
set_option maxHeartbeats 4000000 in
theorem Fr.add14 {d n m : Nat} {P : Nat → Int} {f A B r : Nat → Rat} {q p : Nat → RawR} {D e : Nat} (h : Fr d P f) (hC : ∀ j, Bd 1 255 (f j)) (hA : Q.qx n (fun i => (q i).val) = A) (hB : Q.qx m (fun i => (p i).val) = B) (hn : n ≤ 64) (hm : m ≤ 64) (hq : ∀ i, i < n → wq (q i)) (hp : ∀ i, i < m → wq (p i)) (bA : ∀ k, Bd D (2 ^ e) (A k)) (bB : ∀ k, Bd D (2 ^ e) (B k)) (h0 : 0 < D) (hD : D ≤ 2 ^ 100000) (he : e ≤ 90000) (hr : Q.Rm d f (fun k => A k + B k) r) : FnOK Tryz.prog false 28 [.g [nl (d + 1) P], .c (ql n q), .c (ql m p)] (.c (nql (Q.tq r d) r)) := by
 have bS := fun k => bd_two (bA k) (bB k)
 have a1 := add6_ok hA hB (by omega) (by omega) hq hp (fun i => Nat.le_trans (bd_doc (bA i) h0 hD (by omega)) (by decide)) (fun i => Nat.le_trans (bd_doc (bB i) h0 hD (by omega)) (by decide)) fun i => Nat.le_trans (bd_doc (bS i) h0 hD (by omega)) (by decide)
 have fA : Q.Fin (max n m) A := by rw [← hA]; exact (Q.qx_fin _ _).mono (Nat.le_max_left _ _)
 have fB : Q.Fin (max n m) B := by rw [← hB]; exact (Q.qx_fin _ _).mono (Nat.le_max_right _ _)
 have hT := Q.tq_fin (fA.add fB)
 have hl := Q.tq_le (fun k => A k + B k) (max n m)
 have n1 := h.normal14 (n := Q.tq (fun k => A k + B k) (max n m)) (q := fun i => ofR (A i + B i)) (A := fun k => A k + B k) hC (by rw [show (fun i => (ofR (A i + B i)).val) = fun k => A k + B k from funext fun i => ofR_val _]; exact Q.qx_self hT) (by omega) (fun i _ => wq_n (Nat.le_trans (bd_doc (bS i) h0 hD (by omega)) (by decide))) bS h0 hD (by omega) hr
 clear hr hT hl fA fB bS bA bB hq hp hA hB hC h
 generalize Q.tq r d = L at *
 generalize Q.tq (fun k => A k + B k) (max n m) = M at *
 refine fn_ok (E := E0) E0_ok Tryz.func28 rfl mixed (by kernel_rfl) (by kernel_rfl) ?_
 conv => whnf
 refine ⟨_, a1, ?_⟩
 conv => whnf
 refine ⟨_, n1, ?_⟩
 conv => whnf
 exact ⟨rfl, Sub.refl _⟩
theorem Cy.fr {n d : Nat} {φ : List Int} {T : List (List Int)} (C : Cy n d φ T) : Fr d (Z.gl φ) (Q.fr φ) :=
 ⟨C.tab.mon, C.tab.d2, C.tab.d1, rfl, C.len⟩
theorem Cy.cbd {n d : Nat} {φ : List Int} {T : List (List Int)} (C : Cy n d φ T) : ∀ j, Bd 1 255 (Q.fr φ j) := C.fk.fd.bd
set_option maxHeartbeats 4000000 in
theorem mod15_ok {t : Int} {n : Nat} (n1 : 1 ≤ n) (n2 : n ≤ 1000) : FnOK Tryz.prog false 18 [.c (.int .i64 t), .c (.int .i64 n)] (.c (.int .i64 (rs t n : Nat))) := by
 obtain ⟨t1, t2, t3⟩ := tmod_rs (t := t) n1
 generalize rs t n = K at *
 refine fn_ok (E := E0) E0_ok Tryz.func18 rfl mixed (by kernel_rfl) (by kernel_rfl) ?_
 conv => whnf
 refine ⟨by omega, ?_⟩
 conv => whnf
 refine bcase (fun (h : decide (Int.tmod t n < 0) = true) => ?_) fun (h : decide (Int.tmod t n < 0) = false) => ?_
 ·have h := t1 (of_decide_eq_true h)
  conv => whnf
  refine ⟨i64 (by omega) (by omega), ?_⟩
  conv => whnf
  exact ⟨rfl, Sub.int h⟩
 ·have h := t2 (of_decide_eq_false h)
  conv => whnf
  exact ⟨rfl, Sub.int h⟩
end Rf
end Go.Proofs.YtmbejakmeijcbaaGreat
/- The document's cyclotomic fields: powers of the root of unity, images, coordinates, rational numbers, roots. -/
namespace Go.Proofs.YtmbejakmeijcbaaGreat
open Go.RowKit
namespace Rf
end Rf
end Go.Proofs.YtmbejakmeijcbaaGreat
/- Rational numbers, conjugates, lifts in the program; roots of unity, rational numbers, lifts in the document. -/
namespace Go.Proofs.YtmbejakmeijcbaaGreat
open Go.RowKit
namespace Rf
set_option maxHeartbeats 8000000 in
theorem Cy.rat_yes {n d N D e : Nat} {φ : List Int} {T : List (List Int)} (C : Cy n d φ T) {A r : Nat → Rat} {q : Nat → RawR} (hA : Ev N q A D e) (h0 : 0 < D) (hD : D ≤ 2 ^ 1000000) (he : e ≤ 40000) (hr : Q.Rm d (Q.fr φ) A r) (hz : ∀ j, 1 ≤ j → r j = 0) : FnOK Tryz.prog true 20 [.c (.int .i64 n), .c (ql N q)] (.t3 (.g (nq (r 0))) (.c (.bool true)) (.c (.int .i64 0))) := by
 have hn := C.normal_ok hA h0 hD (by omega) hr
 have hc := C.chk
 have ho := qof_zero
 have hL : Q.tq r d = 0 ∧ r 0 = 0 ∨ Q.tq r d = 1 := by
  rcases Nat.lt_trichotomy (Q.tq r d) 1 with c | c | c
  ·have e0 : Q.tq r d = 0 := by omega
   exact .inl ⟨e0, Q.tq_fin hr.1 0 (by omega)⟩
  ·exact .inr c
  ·obtain ⟨k, hk⟩ : ∃ k, Q.tq r d = k + 1 := ⟨Q.tq r d - 1, by omega⟩
   exact absurd (hz k (by omega)) (Q.tq_top hk)
 clear hr hA C
 rcases hL with ⟨e1, e2⟩ | e1
 ·rw [e1] at hn
  have g : Sub (.g (nq 0)) (.g (nq (r 0))) := by rw [e2]; exact Sub.refl _
  refine fn_ok (E := E1) E1_ok Tryz.func20 rfl mixed (by kernel_rfl) (by kernel_rfl) ?_
  conv => whnf
  refine ⟨_, hc, ?_⟩
  conv => whnf
  refine ⟨_, hn, ?_⟩
  conv => whnf
  refine ⟨_, ho, ?_⟩
  conv => whnf
  exact ⟨rfl, subT3 g (Sub.refl _) (Sub.refl _)⟩
 ·rw [e1] at hn
  refine fn_ok (E := E1) E1_ok Tryz.func20 rfl mixed (by kernel_rfl) (by kernel_rfl) ?_
  conv => whnf
  refine ⟨_, hc, ?_⟩
  conv => whnf
  refine ⟨_, hn, ?_⟩
  conv => whnf
  refine ⟨by omega, by omega, ?_⟩
  conv => whnf
  exact ⟨rfl, Sub.refl _⟩
set_option maxHeartbeats 8000000 in
theorem Cy.rat_no {n d N D e : Nat} {φ : List Int} {T : List (List Int)} (C : Cy n d φ T) {A r : Nat → Rat} {q : Nat → RawR} (hA : Ev N q A D e) (h0 : 0 < D) (hD : D ≤ 2 ^ 1000000) (he : e ≤ 40000) (hr : Q.Rm d (Q.fr φ) A r) (hz : ¬ ∀ j, 1 ≤ j → r j = 0) : FnOK Tryz.prog true 20 [.c (.int .i64 n), .c (ql N q)] (.t3 (.g zcells) (.c (.bool false)) (.c (.int .i64 0))) := by
 have hn := C.normal_ok hA h0 hD (by omega) hr
 have hc := C.chk
 have hL : 2 ≤ Q.tq r d := by
  rcases Nat.lt_or_ge (Q.tq r d) 2 with c | c
  ·exact absurd (fun j hj => Q.tq_fin hr.1 j (by omega)) hz
  ·exact c
 have hL2 := Q.tq_le r d
 have hd := C.tab.d2
 clear hr hA C hz
 generalize Q.tq r d = L at *
 refine fn_ok (E := E1) E1_ok Tryz.func20 rfl mixed (by kernel_rfl) (by kernel_rfl) ?_
 conv => whnf
 refine ⟨_, hc, ?_⟩
 conv => whnf
 refine ⟨_, hn, ?_⟩
 conv => whnf
 refine bneg (show decide ((L : Int) = 0) = false from decide_eq_false (by omega)) ?_
 conv => whnf
 refine bneg (show decide ((L : Int) = 1) = false from decide_eq_false (by omega)) ?_
 conv => whnf
 exact ⟨rfl, Sub.refl _⟩
end Rf
end Go.Proofs.YtmbejakmeijcbaaGreat
/- The law CyclotomicZetas over abstract arguments. -/
namespace Go.Proofs.YtmbejakmeijcbaaGreat
open Go.RowKit
namespace Rf
theorem Cy.one_rm {n d : Nat} {φ : List Int} {T : List (List Int)} (C : Cy n d φ T) (k : Int) : Q.Rm d (Q.fr φ) (Q.xp (rs k n)) (mn n T 1 k) :=
 (C.mn_rm 1 k).congr fun _ => Rat.one_mul _
theorem Cy.one_bd {n d : Nat} {φ : List Int} {T : List (List Int)} (C : Cy n d φ T) (k : Int) (j : Nat) : Bd 1 (2 ^ 8) (mn n T 1 k j) := by
 have h1 := (Bd.int 1).mul (C.bd (k % (n : Int)).toNat j)
 exact Bd.mono h1 (by decide)
end Rf
end Go.Proofs.YtmbejakmeijcbaaGreat
/- The laws' test of the elements: few and short coefficients. -/
namespace Go.Proofs.YtmbejakmeijcbaaGreat
open Go.RowKit
namespace Rf
noncomputable def tyEl (T : TypeId) : Option TI := if T == 81 then some ⟨false, 1, [.nil], 24, [], some 25, none, 0⟩ else tyE T
theorem tyEl_at : tyOf Tryz.prog 81 = some ⟨false, 1, [.nil], 24, [], some 25, none, 0⟩ := by kernel_rfl
theorem tyEl_ok (T : TypeId) (ti : TI) (h : tyEl T = some ti) : tyOf Tryz.prog T = some ti := by
 unfold tyEl at h
 by_cases e : T = 81
 ·subst e
  rw [if_pos (by simp)] at h
  cases h
  exact tyEl_at
 ·rw [if_neg (by simpa using e)] at h
  exact tyE_ok T ti h
noncomputable def E0e : Env := ⟨Tryz.prog, false, tyEl, 0⟩
noncomputable def E1e : Env := ⟨Tryz.prog, true, tyEl, 0⟩
theorem E0e_ok : EnvOK E0e := ⟨tyEl_ok⟩
theorem E1e_ok : EnvOK E1e := ⟨tyEl_ok⟩
def okd (a : RawR) : Prop := a.num.ds.length ≤ 1 ∧ a.den.ds.length ≤ 1
set_option maxHeartbeats 4000000 in
theorem short15_ok {k : Nat} {n : Nat → Nat} {q : Nat → Nat → RawR} {r : Bool} (hk : k ≤ 2) (hr : r = true ↔ ∀ i, i < k → n i ≤ 16 ∧ ∀ j, j < n i → okd (q i j)) : FnOK Tryz.prog false 19 [.c (.row 1 k fun i _ => ql (n i) (q i))] (.c (.bool r)) := by
 refine fn_ok (E := E0e) E0e_ok Tryz.func19 rfl mixed (by kernel_rfl) (by kernel_rfl) ?_
 conv => whnf
 refine loop_ints (fun i : Nat => gst [(0, .c (.row 1 k fun i _ => ql (n i) (q i))), (3, .c (.int .i64 i))] []) (fun i => k - i) (fun i => i ≤ k ∧ ∀ a, a < i → n a ≤ 16 ∧ ∀ j, j < n a → okd (q a j)) 0 rfl (Weak.gen [] rfl trivial ⟨.inl ⟨_, _, rfl, rfl, fun _ _ _ _ => rfl⟩, ⟨_, rfl, rfl⟩, trivial⟩) ⟨Nat.zero_le _, fun a h => by omega⟩ fun i ⟨hi, hg⟩ => ?_
 have r1 : i < k → 16 < n i → false = r := fun a b => (Bool.eq_false_iff.2 fun e => by have := (hr.1 e i a).1; omega).symm
 have r2 : ∀ j, i < k → j < n i → ¬ okd (q i j) → false = r := fun j a b d => (Bool.eq_false_iff.2 fun e => d ((hr.1 e i a).2 j b)).symm
 have r3 : ¬ i < k → true = r := fun a => (hr.2 fun b hb => hg b (by omega)).symm
 clear hr
 conv => whnf
 refine bcase (fun (h : decide ((i : Int) < k) = true) => ?_) fun (h : decide ((i : Int) < k) = false) => ?_
 ·have h := of_decide_eq_true h
  conv => whnf
  refine ⟨by omega, by omega, ?_⟩
  conv => whnf
  refine bcase (fun (h1 : decide ((16 : Int) < n i) = true) => ?_) fun (h1 : decide ((16 : Int) < n i) = false) => ?_
  ·have h1 := of_decide_eq_true h1
   have g := r1 (by omega) (by omega)
   conv => whnf
   exact ⟨rfl, sub_bool g⟩
  ·have h1 := of_decide_eq_false h1
   conv => whnf
   refine loop_ints (fun j : Nat => gst [(0, .c (.row 1 k fun i _ => ql (n i) (q i))), (3, .c (.int .i64 i)), (4, .c (.int .i64 j))] []) (fun j => n i - j) (fun j => j ≤ n i ∧ ∀ b, b < j → okd (q i b)) 0 rfl (Weak.gen [] rfl trivial ⟨.inl ⟨_, _, rfl, rfl, fun _ _ _ _ => rfl⟩, ⟨_, rfl, rfl⟩, ⟨_, rfl, rfl⟩, trivial⟩) ⟨Nat.zero_le _, fun a h => by omega⟩ fun j ⟨hj, hh⟩ => ?_
   conv => whnf
   refine ⟨by omega, by omega, ?_⟩
   conv => whnf
   refine bcase (fun (h2 : decide ((j : Int) < n i) = true) => ?_) fun (h2 : decide ((j : Int) < n i) = false) => ?_
   ·have h2 := of_decide_eq_true h2
    have s1 := r2 j (by omega) (by omega)
    conv => whnf
    refine ⟨by omega, by omega, ?_⟩
    conv => whnf
    refine ⟨by omega, by show (j : Int) < (n i : Int); omega, ?_⟩
    conv => whnf
    refine bcase (fun (a1 : gw false (decide ((1 : Int) < (q i j).num.ds.length)) = true) => ?_) fun (a1 : gw false (decide ((1 : Int) < (q i j).num.ds.length)) = false) => ?_
    ·have a1 := of_decide_eq_false (gwf a1)
     conv => whnf
     refine ⟨by omega, by omega, ?_⟩
     conv => whnf
     refine ⟨by omega, by show (j : Int) < (n i : Int); omega, ?_⟩
     conv => whnf
     refine bcase (fun (a2 : decide ((1 : Int) < (q i j).den.ds.length) = true) => ?_) fun (a2 : decide ((1 : Int) < (q i j).den.ds.length) = false) => ?_
     ·have a2 := of_decide_eq_true a2
      have s4 := s1 fun e => by have := e.2; omega
      conv => whnf
      exact ⟨rfl, sub_bool s4⟩
     ·have a2 := of_decide_eq_false a2
      conv => whnf
      refine ⟨i64 (by omega) (by omega), ?_⟩
      conv => whnf
      refine ⟨j + 1, by omega, Weak.gen [] rfl trivial ⟨.inl ⟨_, _, rfl, rfl, fun _ _ _ _ => rfl⟩, ⟨_, rfl, rfl⟩, ⟨_, rfl, rfl⟩, trivial⟩, by omega, fun a ha => ?_⟩
      by_cases e : a = j
      ·rw [e]; exact ⟨by omega, by omega⟩
      ·exact hh a (by omega)
    ·have a1 := of_decide_eq_true (gwf' a1)
     have s4 := s1 fun e => by have := e.1; omega
     conv => whnf
     exact ⟨rfl, sub_bool s4⟩
   ·have h2 := of_decide_eq_false h2
    conv => whnf
    refine ⟨i64 (by omega) (by omega), ?_⟩
    conv => whnf
    refine ⟨i + 1, by omega, Weak.gen [] rfl trivial ⟨.inl ⟨_, _, rfl, rfl, fun _ _ _ _ => rfl⟩, ⟨_, rfl, rfl⟩, trivial⟩, by omega, fun a ha => ?_⟩
    by_cases e : a = i
    ·rw [e]; exact ⟨by omega, fun b hb => hh b (by omega)⟩
    ·exact hg a (by omega)
 ·have h := of_decide_eq_false h
  have g := r3 (by omega)
  conv => whnf
  exact ⟨rfl, sub_bool g⟩
theorem short15_one {n : Nat} {q : Nat → RawR} {r : Bool} (hr : r = true ↔ n ≤ 16 ∧ ∀ j, j < n → okd (q j)) : FnOK Tryz.prog false 19 [.c (.row 1 1 (rowF 1 [ql n q]))] (.c (.bool r)) := by
 have h := short15_ok (k := 1) (n := fun _ => n) (q := fun _ => q) (r := r) (by decide) (by
  rw [hr]
  exact ⟨fun a i _ => a, fun a => a 0 (by decide)⟩)
 refine arg_ok h fun D w vs h => ?_
 match vs, h with
 | [v1], ⟨h1, _⟩ =>
  refine ⟨subRowG rfl (fun i j hi hj => ?_) D w v1 h1, trivial⟩
  match i, j, hi, hj with
  | 0, 0, _, _ => rfl
end Rf
end Go.Proofs.YtmbejakmeijcbaaGreat
/- The law CyclotomicRoots over abstract arguments; elements that the laws' test lets by. -/
namespace Go.Proofs.YtmbejakmeijcbaaGreat
open Go.RowKit
namespace Rf
theorem okd_small {a : RawR} (h : dgq a) (h' : okd a) : a.val.den ≤ 4294967296 ∧ a.val.num.natAbs ≤ 4294967296 := by
 have f : a.Fit 1 := ⟨h.1, h.2, h'.1, h'.2⟩
 have hz := lenZ (f.qlen (Nat.le_refl _))
 have h1 := zlen_lt a.val.num
 have h2 := zlen_lt (a.val.den : Int)
 have p : ∀ z, z ≤ 1 → Dg.B ^ z ≤ 4294967296 := fun z hz => by
  match z, hz with
  | 0, _ => decide
  | 1, _ => decide
 have := p _ hz.1
 have := p _ hz.2
 have e : ((a.val.den : Int)).natAbs = a.val.den := Int.natAbs_natCast _
 omega
theorem okd_wq {a : RawR} (h : dgq a) (h' : okd a) : wq a := by
 have f : a.Fit 1 := ⟨h.1, h.2, h'.1, h'.2⟩
 have z1 := f.zn
 have z2 := f.zd
 exact ⟨⟨⟨h.1, by have := h'.1; omega⟩, ⟨h.2, by have := h'.2; omega⟩⟩, by omega, by omega⟩
theorem qx_small15 {n : Nat} {q : Nat → RawR} (hq : ∀ j, j < n → dgq (q j)) (h : ∀ j, j < n → okd (q j)) (i : Nat) : (Q.qx n (fun i => (q i).val) i).den ≤ 4294967296 ∧ (Q.qx n (fun i => (q i).val) i).num.natAbs ≤ 4294967296 := by
 unfold Q.qx
 split
 ·rename_i hi
  exact okd_small (hq i hi) (h i hi)
 ·exact ⟨by decide, by decide⟩
theorem pow_words (k : Nat) : 4294967296 ^ k = 2 ^ (32 * k) := by
 rw [show (4294967296 : Nat) = 2 ^ 32 from rfl, ← Nat.pow_mul]
theorem pow_word_succ (k : Nat) : 4294967296 * 4294967296 ^ k = 2 ^ (32 * (k + 1)) := by rw [← pow_words, Nat.pow_succ, Nat.mul_comm]
theorem pair15 {n m : Nat} {q p : Nat → RawR} (hq : ∀ j, j < n → dgq (q j)) (hp : ∀ j, j < m → dgq (p j)) (hn : n ≤ 16) (hm : m ≤ 16) (oq : ∀ j, j < n → okd (q j)) (op : ∀ j, j < m → okd (p j)) : ∃ D, 0 < D ∧ D ≤ 2 ^ (32 * 32) ∧ Ev n q (Q.qx n fun i => (q i).val) D (32 * (32 + 1)) ∧ Ev m p (Q.qx m fun i => (p i).val) D (32 * (32 + 1)) := by
 have fq : Q.Fin 16 (Q.qx n fun i => (q i).val) := (Q.qx_fin _ _).mono hn
 have fp : Q.Fin 16 (Q.qx m fun i => (p i).val) := (Q.qx_fin _ _).mono hm
 have tq := qx_small15 hq oq
 have tp := qx_small15 hp op
 have eq : ∀ i, i < n → (q i).Fit KD := fun i hi => ⟨(hq i hi).1, (hq i hi).2, Nat.le_trans (oq i hi).1 (by decide), Nat.le_trans (oq i hi).2 (by decide)⟩
 have ep : ∀ i, i < m → (p i).Fit KD := fun i hi => ⟨(hp i hi).1, (hp i hi).2, Nat.le_trans (op i hi).1 (by decide), Nat.le_trans (op i hi).2 (by decide)⟩
 obtain ⟨D, d0, d1, d2⟩ := Q.common 4294967296 (by decide) (fun i => if i < 16 then Q.qx n (fun i => (q i).val) i else Q.qx m (fun i => (p i).val) (i - 16)) 32 fun i _ => by
  show (if i < 16 then Q.qx n (fun i => (q i).val) i else Q.qx m (fun i => (p i).val) (i - 16)).den ≤ 4294967296 ∧ (if i < 16 then Q.qx n (fun i => (q i).val) i else Q.qx m (fun i => (p i).val) (i - 16)).num.natAbs ≤ 4294967296
  split
  ·exact tq i
  ·exact tp (i - 16)
 have e1 := pow_words 32
 have e2 := pow_word_succ 32
 rw [e1] at d1
 rw [e2] at d2
 refine ⟨D, d0, d1, ⟨rfl, by omega, eq, fun k => ?_⟩, ⟨rfl, by omega, ep, fun k => ?_⟩⟩
 ·rcases Nat.lt_or_ge k 16 with a | a
  ·have := d2 k (by omega)
   rwa [if_pos a] at this
  ·rw [fq k a]; exact Bd.zero _ _
 ·rcases Nat.lt_or_ge k 16 with a | a
  ·have := d2 (k + 16) (by omega)
   rwa [if_neg (by omega), show k + 16 - 16 = k by omega] at this
  ·rw [fp k a]; exact Bd.zero _ _
end Rf
end Go.Proofs.YtmbejakmeijcbaaGreat
/- The law CyclotomicGalois over abstract arguments. -/
namespace Go.Proofs.YtmbejakmeijcbaaGreat
open Go.RowKit
namespace Rf
theorem wu_pos {x : Int} (h0 : 0 ≤ x) (h1 : x < 18446744073709551616) : IntKind.u64.wrap x = x := inR_wrap (k := .u64) ⟨h0, h1⟩
theorem wu_neg {x : Int} (h0 : x < 0) (h1 : -18446744073709551616 ≤ x) : IntKind.u64.wrap x = x + 18446744073709551616 := by
 show x % 18446744073709551616 = _
 omega
set_option maxHeartbeats 8000000 in
theorem rgcd_ok {a b : Int} (ha : a.natAbs ≤ 1099511627776) (hb : b.natAbs ≤ 1000) : FnOK Tryz.prog false 27 [.c (.int .i64 a), .c (.int .i64 b)] (.c (.int .i64 (Nat.gcd a.natAbs b.natAbs : Nat))) := by
 have na : a < 0 → IntKind.u64.wrap (-IntKind.u64.wrap a) = (a.natAbs : Nat) := fun h => by
  rw [wu_neg h (by omega), show -(a + 18446744073709551616) = -a - 18446744073709551616 by omega]
  show (-a - 18446744073709551616) % 18446744073709551616 = _
  omega
 have nb : b < 0 → IntKind.u64.wrap (-IntKind.u64.wrap b) = (b.natAbs : Nat) := fun h => by
  rw [wu_neg h (by omega), show -(b + 18446744073709551616) = -b - 18446744073709551616 by omega]
  show (-b - 18446744073709551616) % 18446744073709551616 = _
  omega
 have pa : ¬ a < 0 → IntKind.u64.wrap a = (a.natAbs : Nat) := fun h => by rw [wu_pos (by omega) (by omega)]; omega
 have pb : ¬ b < 0 → IntKind.u64.wrap b = (b.natAbs : Nat) := fun h => by rw [wu_pos (by omega) (by omega)]; omega
 generalize a.natAbs = u at *
 generalize b.natAbs = v at *
 rcases Classical.em (a < 0) with h | h
 all_goals rcases Classical.em (b < 0) with h' | h'
 all_goals
  refine fn_okS (E := E0) E0_ok Tryz.func27 rfl (by kernel_rfl) ?_
  refine swp_seq0 E0_ok mixed (by kernel_rfl) ?_
  conv => whnf
  refine swp_seq0 E0_ok mixed (by kernel_rfl) ?_
  conv => whnf
  refine swp_seq E0_ok mixed (by kernel_rfl) ?_
  conv => whnf
  first
   |refine bpos (show decide (a < 0) = true from decide_eq_true h) ?_
    conv => whnf
   |refine bneg (show decide (a < 0) = false from decide_eq_false h) ?_
    conv => whnf
  refine ⟨gst [(1, .c (.int .i64 b)), (5, .c (.int .u64 (u : Nat))), (6, .c (.int .u64 (IntKind.u64.wrap b)))] [], Weak.gen [] rfl trivial ⟨⟨_, rfl, rfl⟩, ⟨_, rfl, by first | exact na h | exact pa h⟩, ⟨_, rfl, rfl⟩, trivial⟩, ?_⟩
  refine swp_seq E0_ok mixed (by kernel_rfl) ?_
  conv => whnf
  first
   |refine bpos (show decide (b < 0) = true from decide_eq_true h') ?_
    conv => whnf
   |refine bneg (show decide (b < 0) = false from decide_eq_false h') ?_
    conv => whnf
  refine ⟨gst [(5, .c (.int .u64 (u : Nat))), (6, .c (.int .u64 (v : Nat)))] [], Weak.gen [] rfl trivial ⟨⟨_, rfl, rfl⟩, ⟨_, rfl, by first | exact nb h' | exact pb h'⟩, trivial⟩, ?_⟩
  refine swp_of E0_ok mixed (by kernel_rfl) ?_
  conv => whnf
  refine loop_ints (fun x : Nat × Nat => gst [(5, .c (.int .u64 x.1)), (6, .c (.int .u64 x.2))] []) (fun x => x.2) (fun x => x.1 ≤ 1099511627776 ∧ x.2 ≤ 1099511627776 ∧ Nat.gcd x.1 x.2 = Nat.gcd u v) (u, v) rfl (Weak.gen [] rfl trivial ⟨⟨_, rfl, rfl⟩, ⟨_, rfl, rfl⟩, trivial⟩) ⟨ha, Nat.le_trans hb (by decide), rfl⟩ ?_
  intro ⟨x, y⟩ ⟨hu, hv, hg⟩
  conv => whnf
  refine bcase (fun (h1 : decide ((0 : Int) < (y : Int)) = true) => ?_) fun (h1 : decide ((0 : Int) < (y : Int)) = false) => ?_
  ·have h1 : y ≠ 0 := by have := of_decide_eq_true h1; omega
   have hlt := Nat.mod_lt x (Nat.pos_of_ne_zero h1)
   have hr : Int.tmod (x : Int) (y : Int) = ((x % y : Nat) : Int) := by rw [Int.natCast_emod]; exact Int.tmod_eq_emod_of_nonneg (by omega)
   conv => whnf
   refine ⟨by omega, ?_⟩
   conv => whnf
   exact ⟨(y, x % y), hlt, Weak.gen [] rfl trivial ⟨⟨_, rfl, rfl⟩, ⟨_, rfl, hr⟩, trivial⟩, hv, by show x % y ≤ _; have : y ≤ 1099511627776 := hv; omega, by show Nat.gcd y (x % y) = _; rw [← hg, Nat.gcd_comm x y, Nat.gcd_rec y x, Nat.gcd_comm]⟩
  ·have h1 : y = 0 := by have := of_decide_eq_false h1; omega
   have hg : x = Nat.gcd u v := by rw [← hg, h1, Nat.gcd_zero_right]
   have hu : x ≤ 1099511627776 := hu
   conv => whnf
   refine bneg (show decide ((9223372036854775807 : Int) < (x : Int)) = false from decide_eq_false (by omega)) ?_
   conv => whnf
   refine ⟨rfl, Sub.int ?_⟩
   rw [← hg]
   exact inR_wrap (i64 (by omega) (by omega))
theorem rs_int (t : Int) {n : Nat} (h : 1 ≤ n) : ((rs t n : Nat) : Int) = t % n := by
 have := Int.emod_nonneg t (show (n : Int) ≠ 0 by omega)
 show (((t % (n : Int)).toNat : Nat) : Int) = _
 omega
theorem rs_gcd (t : Int) {n : Nat} (h : 1 ≤ n) : Nat.gcd (rs t n) n = Nat.gcd t.natAbs n := by
 have e := rs_int t h
 have e2 := Int.emod_add_mul_ediv t n
 refine Nat.dvd_antisymm (Nat.dvd_gcd ?_ (Nat.gcd_dvd_right _ _)) (Nat.dvd_gcd ?_ (Nat.gcd_dvd_right _ _))
 ·have h1 := Nat.gcd_dvd_left (rs t n) n
  have h2 := Nat.gcd_dvd_right (rs t n) n
  generalize Nat.gcd (rs t n) n = g at *
  have h3 : (g : Int) ∣ t % n := by rw [← e]; exact Int.natCast_dvd_natCast.2 h1
  have h4 := Int.dvd_add h3 (Int.dvd_trans (Int.natCast_dvd_natCast.2 h2) (Int.dvd_mul_right (n : Int) (t / n)))
  rw [e2] at h4
  exact Int.ofNat_dvd_left.1 h4
 ·have h1 := Nat.gcd_dvd_left t.natAbs n
  have h2 := Nat.gcd_dvd_right t.natAbs n
  generalize Nat.gcd t.natAbs n = g at *
  have h4 := Int.dvd_sub (Int.ofNat_dvd_left.2 h1) (Int.dvd_trans (Int.natCast_dvd_natCast.2 h2) (Int.dvd_mul_right (n : Int) (t / n)))
  rw [show t - (n : Int) * (t / n) = t % n by omega, ← e] at h4
  exact Int.natCast_dvd_natCast.1 h4
section
variable {n d : Nat} {φ : List Int} {T : List (List Int)}
theorem Cy.ex_rm (C : Cy n d φ T) {m : Nat} {A : Nat → Rat} (hA : Q.Fin m A) : ∃ r, Q.Rm d (Q.fr φ) A r :=
 ⟨_, Q.dvs_rm C.tab.mon (N := m) (hA.mono (by omega))⟩
end
end Rf
end Go.Proofs.YtmbejakmeijcbaaGreat
/- Traces of matrices and of elements in the program; Ramanujan's sums in the document. -/
namespace Go.Proofs.YtmbejakmeijcbaaGreat
open Go.RowKit
namespace Rf
set_option maxHeartbeats 8000000 in
theorem mtrace_ok {n : Nat} {G : Nat → Nat → Rat} (hn : n ≤ 12) (hG : ∀ i, i < n → qlen (G i i) ≤ KD) (hS : ∀ i, i ≤ n → qlen (Q.su (fun i => G i i) i) ≤ KD) : FnOK Tryz.prog true 59 [.g (matL n n G)] (.t2 (.g (nq (Q.su (fun i => G i i) n))) (.c (.int .i64 0))) := by
 have sq : FnOK Tryz.prog true 91 [.g (matL n n G)] (.c (.bool true)) := by
  have hv := valid_ok (r := n) (c := n) (len := n * n) (f := qlF fun k => ofR (G (k / n) (k % n)))
  rw [decide_eq_true (⟨⟨by omega, by omega⟩, ⟨by omega, by omega⟩, Int.natCast_mul n n⟩ : (0 ≤ (n : Int) ∧ (n : Int) ≤ 1024) ∧ (0 ≤ (n : Int) ∧ (n : Int) ≤ 1024) ∧ ((n * n : Nat) : Int) = (n : Int) * n)] at hv
  refine fn_ok (E := E1) E1_ok Tryz.func91 rfl mixed (by kernel_rfl) (by kernel_rfl) ?_
  conv => whnf
  refine ⟨_, hv, ?_⟩
  conv => whnf
  exact ⟨rfl, sub_bool (decide_eq_true rfl)⟩
 have h0 := qof_zero
 have ad : ∀ i : Nat, i < n → FnOK Tryz.prog true 92 [.g (nq (Q.su (fun i => G i i) i)), .g (nq (G (((i : Int) * n + i).toNat / n) (((i : Int) * n + i).toNat % n)))] (.g (nq (Q.su (fun i => G i i) (i + 1)))) := fun i hi => by
  obtain ⟨_, m1, m2⟩ := mat_idx (n := n) (m := n) hi hi
  rw [show ((i : Int) * n + i).toNat = i * n + i by rw [← Int.natCast_mul, ← Int.natCast_add, Int.toNat_natCast], m1, m2]
  have := qadd_ok (q := ofR (Q.su (fun i => G i i) i)) (p := ofR (G i i)) (L := KD) (L' := KD) (ofR_fit (hS i (by omega))) (ofR_fit (hG i hi)) (by decide)
  rwa [ofR_val, ofR_val] at this
 have z0 : Q.su (fun i => G i i) 0 = 0 := rfl
 clear hG hS
 obtain ⟨S, hS⟩ : ∃ S : Nat → Rat, S = Q.su (fun i => G i i) := ⟨_, rfl⟩
 rw [← hS] at z0 ad ⊢
 clear hS
 refine fn_okS (E := E1) E1_ok Tryz.func59 rfl (by kernel_rfl) ?_
 refine swp_seq0 E1_ok mixed (by kernel_rfl) ?_
 conv => whnf
 refine swp_seq0 E1_ok mixed (by kernel_rfl) ?_
 conv => whnf
 refine ⟨_, sq, ?_⟩
 conv => whnf
 refine swp_seq0 E1_ok mixed (by kernel_rfl) ?_
 conv => whnf
 refine ⟨_, h0, ?_⟩
 conv => whnf
 refine swp_of E1_ok mixed (by kernel_rfl) ?_
 conv => whnf
 refine loop_ints (fun i : Nat => gst [(1, .c (.p 0 0 3 0 0)), (2, .c (.p 1 0 4 0 0)), (4, .c (.p 2 0 4 0 0)), (5, .c (.int .i64 i))] [⟨88, 3, 1, boxF (matL n n G)⟩, ⟨46, 4, 1, boxF zcells⟩, ⟨46, 4, 1, boxF (nq (S i))⟩]) (fun i => n - i) (fun i => i ≤ n) 0 rfl (Weak.gen [some 0, some 1, some 2] rfl ⟨boxK rfl rfl, boxK rfl rfl, (by rw [z0]; exact boxU rfl rfl rfl), trivial⟩ ⟨⟨_, rfl, rfl, rfl⟩, ⟨_, rfl, rfl, rfl⟩, ⟨_, rfl, rfl, rfl⟩, ⟨_, rfl, rfl⟩, trivial⟩) (Nat.zero_le _) fun i hi => ?_
 have ad := ad i
 conv => whnf
 refine bcase (fun (h : decide ((i : Int) < n) = true) => ?_) fun (h : decide ((i : Int) < n) = false) => ?_
 ·have h := of_decide_eq_true h
  have ad := ad (by omega)
  have b1 : (i : Int) * n ≤ 12 * 12 := Int.mul_le_mul (by omega) (by omega) (by omega) (by omega)
  have b2 : 0 ≤ (i : Int) * n := Int.mul_nonneg (by omega) (by omega)
  have b3 : (i : Int) * n + i < ((n * n : Nat) : Int) := by
   have := (mat_idx (n := n) (m := n) (i := i) (j := i) (by omega) (by omega)).1
   rw [← Int.natCast_mul, ← Int.natCast_add]
   omega
  conv => whnf
  refine ⟨i64 (by omega) (by omega), ?_⟩
  conv => whnf
  refine ⟨i64 (by omega) (by omega), ?_⟩
  conv => whnf
  refine ⟨by omega, b3, ?_⟩
  conv => whnf
  refine ⟨_, ad, ?_⟩
  conv => whnf
  refine ⟨i64 (by omega) (by omega), ?_⟩
  conv => whnf
  exact ⟨i + 1, by omega, Weak.gen [some 0, some 1, some 2] rfl ⟨boxK rfl rfl, boxK rfl rfl, boxU rfl rfl rfl, trivial⟩ ⟨⟨_, rfl, rfl, rfl⟩, ⟨_, rfl, rfl, rfl⟩, ⟨_, rfl, rfl, rfl⟩, ⟨_, rfl, rfl⟩, trivial⟩, by omega⟩
 ·have h := of_decide_eq_false h
  have g : Sub (.g (nq (S i))) (.g (nq (S n))) := by rw [show i = n by omega]; exact Sub.refl _
  conv => whnf
  exact ⟨rfl, subT2 g (Sub.refl _)⟩
set_option maxHeartbeats 4000000 in
theorem ntrace_of {n d N : Nat} {c : Nat → RawZ} {q : Nat → RawR} {G : Nat → Nat → Rat} {x : Rat} (hm : FnOK Tryz.prog true 58 [.g [zl n c], .c (ql N q)] (.t2 (.g (matL d d G)) (.c (.int .i64 0)))) (ht : FnOK Tryz.prog true 59 [.g (matL d d G)] (.t2 (.g (nq x)) (.c (.int .i64 0)))) : FnOK Tryz.prog true 32 [.g [zl n c], .c (ql N q)] (.t2 (.g (nq x)) (.c (.int .i64 0))) := by
 refine fn_ok (E := E1) E1_ok Tryz.func32 rfl mixed (by kernel_rfl) (by kernel_rfl) ?_
 conv => whnf
 refine ⟨_, hm, ?_⟩
 conv => whnf
 refine ⟨_, ht, ?_⟩
 conv => whnf
 exact ⟨rfl, Sub.refl _⟩
theorem Cy.trace_ok {n d N D e : Nat} {φ : List Int} {T : List (List Int)} (C : Cy n d φ T) {A : Nat → Rat} {q : Nat → RawR} (hA : Ev N q A D e) (h0 : 0 < D) (hD : D ≤ 2 ^ 1000000) (he : e ≤ 20000) : FnOK Tryz.prog true 32 [.g [nl (d + 1) (Z.gl φ)], .c (ql N q)] (.t2 (.g (nq (Q.dg n d N T A))) (.c (.int .i64 0))) := by
 have d2 := C.tab.d2
 obtain ⟨bm, hm⟩ := nMult_e C.fk hA h0 hD (by omega)
 have hw := mrow_rm C.fk.fd.mon hA.fin
 have hg := Q.red_rm C.fk.fd.mon (Q.xp_fin 1)
 have e1 := C.tab.trace hA.fin hg hw
 have b1 : ∀ i, i < d → Bd D (2 ^ (e + 256 + 533 * 12)) (mrow d (Q.fr φ) A i i) := fun i hi => (bm i i (by omega)).mono (pow_le2 (by omega))
 have b2 : ∀ i, i ≤ d → Bd D (i * 2 ^ (e + 256 + 533 * 12)) (Q.su (fun i => mrow d (Q.fr φ) A i i) i) := fun i => by
  induction i with
  | zero => exact fun _ => Bd.zero _ _
  | succ i ih =>
   intro hi
   have := (ih (by omega)).add (b1 i (by omega))
   rwa [← Nat.succ_mul] at this
 have b3 : ∀ i, i ≤ d → Bd D (2 ^ (e + 256 + 533 * 12 + 4)) (Q.su (fun i => mrow d (Q.fr φ) A i i) i) := fun i hi => (b2 i hi).mono (by
  rw [Nat.pow_add 2 (e + 256 + 533 * 12) 4, Nat.mul_comm]
  exact Nat.mul_le_mul_left _ (by omega))
 have ht := mtrace_ok (n := d) (G := mrow d (Q.fr φ) A) d2 (fun i hi => bd_fit (b1 i hi) h0 (le_lim hD) (two_lt (by omega))) fun i hi => bd_fit (b3 i hi) h0 (le_lim hD) (two_lt (by omega))
 rw [e1] at ht
 exact ntrace_of hm ht
end Rf
end Go.Proofs.YtmbejakmeijcbaaGreat
