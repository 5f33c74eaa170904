/- The document's product of integers. -/
import Derived.Test.YtigciplaoikcfaaGreatRfI
namespace Go.Proofs.YtigciplaoikcfaaGreat
open Go.RowKit
namespace Rf
/-- A partial product: V, and so many digits of b times the digit a at the place i. -/
def mS (V a i : Nat) (b : Nat → Nat) (j : Nat) : Nat := V + a * nv b j * BB ^ i
/-- The carry. -/
def mC (V a i : Nat) (b : Nat → Nat) (j : Nat) : Nat := mS V a i b j / BB ^ (i + j) - V / BB ^ (i + j)
theorem mC_eq (V a i : Nat) (b : Nat → Nat) (j : Nat) : mS V a i b j / BB ^ (i + j) = V / BB ^ (i + j) + mC V a i b j := by
  have := Nat.div_le_div_right (c := BB ^ (i + j)) (show V ≤ mS V a i b j from Nat.le_add_right _ _)
  unfold mC
  omega
theorem mC_zero (V a i : Nat) (b : Nat → Nat) : mC V a i b 0 = 0 := by
  unfold mC mS
  simp [nv]
theorem mC_lt {V a i : Nat} {b : Nat → Nat} {j : Nat} (ha : a < BB) (hb : DOk j b) : mC V a i b j < BB := by
  have h1 : a * nv b j + BB ^ j ≤ BB * BB ^ j := by
    have h2 := nv_lt hb
    have h3 : a * nv b j ≤ (BB - 1) * nv b j := Nat.mul_le_mul_right _ (by omega)
    have h4 : (BB - 1) * nv b j ≤ (BB - 1) * BB ^ j := Nat.mul_le_mul_left _ (Nat.le_of_lt h2)
    have h5 : (BB - 1) * BB ^ j + BB ^ j = BB * BB ^ j := by
      rw [← Nat.succ_mul]
      congr 1
    omega
  have hP : 0 < BB ^ (i + j) := BB_pos _
  have e := mC_eq V a i b j
  have h6 : mS V a i b j < (V / BB ^ (i + j) + BB) * BB ^ (i + j) := by
    have h7 := Nat.lt_div_mul_add (a := V) hP
    have h8 : a * nv b j * BB ^ i ≤ (BB * BB ^ j - BB ^ j) * BB ^ i := Nat.mul_le_mul_right _ (by omega)
    have h9 : (BB * BB ^ j - BB ^ j) * BB ^ i + BB ^ (i + j) = BB * BB ^ (i + j) := by
      rw [Nat.pow_add, Nat.mul_sub_right_distrib, Nat.mul_comm (BB ^ i), Nat.mul_assoc]
      have : BB ^ j * BB ^ i ≤ BB * (BB ^ j * BB ^ i) := Nat.le_mul_of_pos_left _ (by decide)
      omega
    unfold mS
    rw [Nat.add_mul]
    omega
  have := (Nat.div_lt_iff_lt_mul hP).2 h6
  omega
theorem m_step {V a i : Nat} {b : Nat → Nat} (j : Nat) : (a * b j + dg V (i + j) + mC V a i b j) % BB = dg (mS V a i b (j + 1)) (i + j) ∧ (a * b j + dg V (i + j) + mC V a i b j) / BB = mC V a i b (j + 1) := by
  have hP : 0 < BB ^ (i + j) := BB_pos _
  have e1 := mC_eq V a i b j
  have e2 : mS V a i b (j + 1) = mS V a i b j + a * b j * BB ^ (i + j) := by
    unfold mS
    show V + a * (nv b j + BB ^ j * b j) * BB ^ i = _
    rw [Nat.pow_add, Nat.mul_add, Nat.add_mul, ← Nat.add_assoc]
    congr 1
    rw [Nat.mul_assoc, Nat.mul_assoc, Nat.mul_assoc]
    congr 1
    rw [Nat.mul_comm (BB ^ j), Nat.mul_assoc]
  have e3 : mS V a i b (j + 1) / BB ^ (i + j) = V / BB ^ (i + j) + mC V a i b j + a * b j := by
    rw [e2, Nat.add_mul_div_right _ _ hP, e1]
  have e4 : V / BB ^ (i + j) = V / BB ^ (i + (j + 1)) * BB + dg V (i + j) := by
    unfold dg
    rw [← Nat.add_assoc, Nat.pow_succ, ← Nat.div_div_eq_div_mul]
    have := Nat.div_add_mod (V / BB ^ (i + j)) BB
    rw [Nat.mul_comm] at this
    exact this.symm
  have e5 : mS V a i b (j + 1) / BB ^ (i + j) = (a * b j + dg V (i + j) + mC V a i b j) + V / BB ^ (i + (j + 1)) * BB := by omega
  have hB : 0 < BB := by decide
  refine ⟨?_, ?_⟩
  · show _ = mS V a i b (j + 1) / BB ^ (i + j) % BB
    rw [e5, Nat.add_mul_mod_self_right]
  · have e6 : mS V a i b (j + 1) / BB ^ (i + (j + 1)) = (a * b j + dg V (i + j) + mC V a i b j) / BB + V / BB ^ (i + (j + 1)) := by
      rw [show BB ^ (i + (j + 1)) = BB ^ (i + j) * BB by rw [← Nat.add_assoc, Nat.pow_succ], ← Nat.div_div_eq_div_mul, e5, Nat.add_mul_div_right _ _ hB, ← Nat.add_assoc, Nat.pow_succ]
    have := mC_eq V a i b (j + 1)
    omega
theorem m_low {V a i : Nat} {b : Nat → Nat} {j k : Nat} (h : k < i + j) : dg (mS V a i b (j + 1)) k = dg (mS V a i b j) k := by
  have e2 : mS V a i b (j + 1) = mS V a i b j + a * b j * BB ^ (i + j) := by
    unfold mS
    show V + a * (nv b j + BB ^ j * b j) * BB ^ i = _
    rw [Nat.pow_add, Nat.mul_add, Nat.add_mul, ← Nat.add_assoc]
    congr 1
    rw [Nat.mul_assoc, Nat.mul_assoc, Nat.mul_assoc]
    congr 1
    rw [Nat.mul_comm (BB ^ j), Nat.mul_assoc]
  unfold dg
  have e3 : BB ^ (i + j) = BB ^ (i + j - (k + 1)) * BB * BB ^ k := by
    rw [Nat.mul_assoc, Nat.mul_comm BB, ← Nat.pow_succ, ← Nat.pow_add]
    congr 1
    omega
  rw [e2, e3, ← Nat.mul_assoc, ← Nat.mul_assoc, Nat.add_mul_div_right _ _ (BB_pos k), Nat.add_mul_mod_self_right]
/-- The digits while a row is added: behind j places. -/
def mD (V a i : Nat) (b : Nat → Nat) (j k : Nat) : Nat := if k < i + j then dg (mS V a i b j) k else dg V k
theorem mD_zero (V a i : Nat) (b : Nat → Nat) (k : Nat) : mD V a i b 0 k = dg V k := by
  unfold mD mS
  simp [nv]
theorem mD_at (V a i : Nat) (b : Nat → Nat) (j : Nat) : mD V a i b j (i + j) = dg V (i + j) := by
  unfold mD
  rw [if_neg (by omega)]
theorem mD_next (V a i : Nat) (b : Nat → Nat) (j k : Nat) : (if k = i + j then (a * b j + dg V (i + j) + mC V a i b j) % BB else mD V a i b j k) = mD V a i b (j + 1) k := by
  unfold mD
  by_cases e : k = i + j
  · rw [if_pos e, if_pos (by omega), (m_step j).1, e]
  · rw [if_neg e]
    by_cases e2 : k < i + j
    · rw [if_pos e2, if_pos (by omega), m_low e2]
    · rw [if_neg e2, if_neg (by omega)]
/-- The last place of a row takes the carry. -/
theorem mD_end {V a i m : Nat} {b : Nat → Nat} (hV : V < BB ^ (i + m)) (ha : a < BB) (hb : DOk m b) (k : Nat) : (if k = i + m then mC V a i b m else mD V a i b m k) = dg (mS V a i b m) k := by
  have e := mC_eq V a i b m
  rw [Nat.div_eq_of_lt hV, Nat.zero_add] at e
  have hc := mC_lt (V := V) (i := i) ha hb
  unfold mD
  by_cases c : k = i + m
  · rw [if_pos c, c]
    unfold dg
    rw [e, Nat.mod_eq_of_lt hc]
  · rw [if_neg c]
    by_cases c2 : k < i + m
    · rw [if_pos c2]
    · rw [if_neg c2]
      have hS : mS V a i b m < BB ^ (i + m + 1) := by
        rw [Nat.pow_succ, Nat.mul_comm]
        have := (Nat.div_lt_iff_lt_mul (BB_pos (i + m))).1 (show mS V a i b m / BB ^ (i + m) < BB by omega)
        exact this
      have h1 : BB ^ (i + m + 1) ≤ BB ^ k := Nat.pow_le_pow_right (by decide) (by omega)
      have h2 : BB ^ (i + m) ≤ BB ^ k := Nat.pow_le_pow_right (by decide) (by omega)
      unfold dg
      rw [Nat.div_eq_of_lt (by omega), Nat.div_eq_of_lt (by omega)]
theorem mS_end {y i : Nat} {a b : Nat → Nat} {m : Nat} (hy : nv b m = y) : mS (nv a i * y) (a i) i b m = nv a (i + 1) * y := by
  unfold mS
  show _ = (nv a i + BB ^ i * a i) * y
  rw [hy, Nat.add_mul]
  congr 1
  rw [Nat.mul_assoc, Nat.mul_comm, Nat.mul_assoc, Nat.mul_comm y, Nat.mul_assoc]
theorem mul_word {u v w c : Nat} (hu : u < BB) (hv : v < BB) (hw : w < BB) (hc : c < BB) : IntKind.u64.wrap (IntKind.u64.wrap (IntKind.u64.wrap (IntKind.u64.wrap (u : Int) * IntKind.u64.wrap (v : Int)) + IntKind.u64.wrap (w : Int)) + (c : Int)) = ((u * v + w + c : Nat) : Int) := by
  have hu : u < 4294967296 := hu
  have hv : v < 4294967296 := hv
  have hw : w < 4294967296 := hw
  have hc : c < 4294967296 := hc
  have h1 : u * v ≤ 4294967295 * 4294967295 := Nat.mul_le_mul (by omega) (by omega)
  rw [w64 (x := (u : Int)) (by omega) (by omega), w64 (x := (v : Int)) (by omega) (by omega), w64 (x := (w : Int)) (by omega) (by omega), ← Int.natCast_mul]
  generalize u * v = t at *
  rw [w64 (x := (t : Int)) (by omega) (by omega), w64 (x := (t : Int) + (w : Int)) (by omega) (by omega), w64 (by omega) (by omega)]
  omega
theorem sgn_mul (p q : Bool) (x y : Nat) : sgn (!(p == q)) (x * y) = sgn p x * sgn q y := by
  cases p <;> cases q <;> simp [sgn, Int.mul_neg, Int.neg_mul]
set_option maxHeartbeats 8000000 in
theorem rmulz_ok {a b : RawZ} (ha : wr a) (hb : wr b) (hl : zlen a.val + zlen b.val ≤ 1048576) : FnOK Tryz.prog false 87 [.g (zr a), .g (zr b)] (.g (nz (a.val * b.val))) := by
  have t1 := rtrim_ok (ld_ok ha.1 a.ds.length) ha.2
  have t2 := rtrim_ok (ld_ok hb.1 b.ds.length) hb.2
  obtain ⟨x, hx⟩ : ∃ x, x = nv (ld a.ds) a.ds.length := ⟨_, rfl⟩
  obtain ⟨y, hy⟩ : ∃ y, y = nv (ld b.ds) b.ds.length := ⟨_, rfl⟩
  rw [← hx] at t1
  rw [← hy] at t2
  have ex : a.val = sgn a.neg x := by rw [hx]; exact (nv_raw a).symm
  have ey : b.val = sgn b.neg y := by rw [hy]; exact (nv_raw b).symm
  have lx : zlen a.val = (digs x).length := by rw [ex]; unfold zlen; rw [sgn_abs]
  have ly : zlen b.val = (digs y).length := by rw [ey]; unfold zlen; rw [sgn_abs]
  rw [lx, ly] at hl
  rw [ex, ey, ← sgn_mul]
  have dx := ld_ok (digs_ok x) (digs x).length
  have dy := ld_ok (digs_ok y) (digs y).length
  have vx := nv_digs x
  have vy := nv_digs y
  have bx := lt_digs x
  have by' := lt_digs y
  obtain ⟨α, hα⟩ : ∃ α, α = ld (digs x) := ⟨_, rfl⟩
  obtain ⟨β, hβ⟩ : ∃ β, β = ld (digs y) := ⟨_, rfl⟩
  rw [← hα] at dx vx
  rw [← hβ] at dy vy
  have hS := fun s => sg_ok (x := x * y) (q := (digs x).length + (digs y).length) s (by rw [Nat.pow_add]; exact Nat.mul_lt_mul'' bx by') hl
  clear ex ey lx ly hx hy
  have hVl : ∀ i : Nat, (i : Int) < (digs x).length → nv α i * y < BB ^ (i + (digs y).length) := fun i hi => by
    rw [Nat.pow_add]
    exact Nat.mul_lt_mul'' (nv_lt (dx.mono (by omega))) by'
  refine fn_ok (E := E0) E0_ok Tryz.func87 rfl mixed (by kernel_rfl) (by kernel_rfl) ?_
  conv => whnf
  refine ⟨_, t1, ?_⟩
  conv => whnf
  refine ⟨_, t2, ?_⟩
  conv => whnf
  refine ⟨i64 (by omega) (by omega), ?_⟩
  conv => whnf
  refine ⟨by omega, Int.le_refl _, by omega, by show (4 : Int) * (((digs x).length : Int) + ((digs y).length : Int)) ≤ 281474976710656; omega, ?_⟩
  have eN : (((digs x).length : Int) + ((digs y).length : Int)).toNat = (digs x).length + (digs y).length := by omega
  conv => whnf
  refine loop_ints (fun i : Nat => gst [(2, .c (.p 0 0 2 0 0)), (3, .c (.p 1 0 2 0 0)), (4, .c (.p 2 0 2 0 0)), (5, .c (dsC (digs x))), (6, .c (dsC (digs y))), (7, .c (.gs 3 0)), (8, .c (.int .i64 i))] [⟨61, 2, 1, boxF (zr a)⟩, ⟨61, 2, 1, boxF (zr b)⟩, ⟨61, 2, 1, boxF [.bool false, .nil]⟩, gd ((digs x).length + (digs y).length) (dg (nv α i * y))]) (fun i => (digs x).length - i) (fun i => i ≤ (digs x).length) 0 rfl ?_ (Nat.zero_le _) fun i hi => ?_
  · refine Weak.gen [some 0, some 1, some 2, some 3] rfl ⟨boxK rfl rfl, boxK rfl rfl, boxK rfl rfl, ⟨_, rfl, rfl, rfl, eN, rfl, fun p k hp hk => ?_⟩, trivial⟩ ⟨⟨_, rfl, rfl, rfl⟩, ⟨_, rfl, rfl, rfl⟩, ⟨_, rfl, rfl, rfl⟩, .inl ⟨_, _, rfl, rfl, fun _ _ _ _ => rfl⟩, .inl ⟨_, _, rfl, rfl, fun _ _ _ _ => rfl⟩, ⟨_, rfl, rfl, rfl⟩, ⟨_, rfl, rfl⟩, trivial⟩
    obtain rfl := Nat.lt_one_iff.1 hk
    exact ⟨_, rfl, by show (0 : Int) = (dg (nv α 0 * y) p : Nat); simp [nv, dg]⟩
  conv => whnf
  refine bcase (fun (h : decide ((i : Int) < (digs x).length) = true) => ?_) fun (h : decide ((i : Int) < (digs x).length) = false) => ?_
  · have h := of_decide_eq_true h
    conv => whnf
    refine loop_ints (fun j : Nat => gst [(2, .c (.p 0 0 2 0 0)), (3, .c (.p 1 0 2 0 0)), (4, .c (.p 2 0 2 0 0)), (5, .c (dsC (digs x))), (6, .c (dsC (digs y))), (7, .c (.gs 3 0)), (8, .c (.int .i64 i)), (9, .c (.int .u64 (mC (nv α i * y) (α i) i β j : Nat))), (10, .c (.int .i64 j))] [⟨61, 2, 1, boxF (zr a)⟩, ⟨61, 2, 1, boxF (zr b)⟩, ⟨61, 2, 1, boxF [.bool false, .nil]⟩, gd ((digs x).length + (digs y).length) (mD (nv α i * y) (α i) i β j)]) (fun j => (digs y).length - j) (fun j => j ≤ (digs y).length) 0 rfl ?_ (Nat.zero_le _) fun j hj => ?_
    · exact Weak.gen [some 0, some 1, some 2, some 3] rfl ⟨boxK rfl rfl, boxK rfl rfl, boxK rfl rfl, ⟨_, rfl, rfl, rfl, rfl, rfl, fun p k hp hk => ⟨_, congrArg (fun t : Nat => Cell.int .u32 (t : Nat)) (mD_zero _ _ _ _ p).symm, rfl⟩⟩, trivial⟩ ⟨⟨_, rfl, rfl, rfl⟩, ⟨_, rfl, rfl, rfl⟩, ⟨_, rfl, rfl, rfl⟩, .inl ⟨_, _, rfl, rfl, fun _ _ _ _ => rfl⟩, .inl ⟨_, _, rfl, rfl, fun _ _ _ _ => rfl⟩, ⟨_, rfl, rfl, rfl⟩, ⟨_, rfl, rfl⟩, ⟨_, rfl, by rw [mC_zero]; rfl⟩, ⟨_, rfl, rfl⟩, trivial⟩
    conv => whnf
    refine bcase (fun (h1 : decide ((j : Int) < (digs y).length) = true) => ?_) fun (h1 : decide ((j : Int) < (digs y).length) = false) => ?_
    · have h1 := of_decide_eq_true h1
      have hw1 : IntKind.u64.wrap (IntKind.u64.wrap (IntKind.u64.wrap (IntKind.u64.wrap (((digs x).getD ((i : Int)).toNat 0 : Nat) : Int) * IntKind.u64.wrap (((digs y).getD ((j : Int)).toNat 0 : Nat) : Int)) + IntKind.u64.wrap ((mD (nv α i * y) (α i) i β j ((i : Int) + (j : Int)).toNat : Nat) : Int)) + ((mC (nv α i * y) (α i) i β j : Nat) : Int)) = ((α i * β j + dg (nv α i * y) (i + j) + mC (nv α i * y) (α i) i β j : Nat) : Int) := by
        rw [show ((i : Int) + (j : Int)).toNat = i + j by omega, mD_at]
        have e1 : (digs x).getD ((i : Int)).toNat 0 = α i := by rw [hα]; rfl
        have e2 : (digs y).getD ((j : Int)).toNat 0 = β j := by rw [hβ]; rfl
        rw [e1, e2]
        exact mul_word (dx i (by omega)) (dy j (by omega)) (dg_lt _ _) (mC_lt (dx i (by omega)) (dy.mono (by omega)))
      conv => whnf
      refine ⟨by omega, by omega, ?_⟩
      conv => whnf
      refine ⟨by omega, by omega, ?_⟩
      conv => whnf
      refine ⟨i64 (by omega) (by omega), ?_⟩
      conv => whnf
      refine ⟨by omega, by show (i : Int) + (j : Int) < (((digs x).length + (digs y).length : Nat) : Int); omega, ?_⟩
      conv => whnf
      refine ⟨i64 (by omega) (by omega), ?_⟩
      conv => whnf
      refine ⟨by omega, by show (i : Int) + (j : Int) < (((digs x).length + (digs y).length : Nat) : Int); omega, ?_⟩
      conv => whnf
      refine ⟨by omega, ?_⟩
      conv => whnf
      refine ⟨i64 (by omega) (by omega), ?_⟩
      conv => whnf
      refine ⟨j + 1, by omega, Weak.gen [some 0, some 1, some 2, some 3] rfl ⟨boxK rfl rfl, boxK rfl rfl, boxK rfl rfl, ⟨_, rfl, rfl, rfl, rfl, rfl, fun p k hp hk => ⟨_, updN hk ?_, rfl⟩⟩, trivial⟩ ⟨⟨_, rfl, rfl, rfl⟩, ⟨_, rfl, rfl, rfl⟩, ⟨_, rfl, rfl, rfl⟩, .inl ⟨_, _, rfl, rfl, fun _ _ _ _ => rfl⟩, .inl ⟨_, _, rfl, rfl, fun _ _ _ _ => rfl⟩, ⟨_, rfl, rfl, rfl⟩, ⟨_, rfl, rfl⟩, ⟨_, rfl, ?_⟩, ⟨_, rfl, rfl⟩, trivial⟩, by omega⟩
      · rw [hw1]
        show (if p = ((i : Int) + (j : Int)).toNat then IntKind.u32.wrap ((α i * β j + dg (nv α i * y) (i + j) + mC (nv α i * y) (α i) i β j : Nat) : Int) else ((mD (nv α i * y) (α i) i β j p : Nat) : Int)) = (mD (nv α i * y) (α i) i β (j + 1) p : Nat)
        rw [show ((i : Int) + (j : Int)).toNat = i + j by omega, w32, ← mD_next]
        split <;> rfl
      · rw [hw1]
        show Int.fdiv ((α i * β j + dg (nv α i * y) (i + j) + mC (nv α i * y) (α i) i β j : Nat) : Int) (2 ^ 32) = _
        rw [sh32, (m_step j).2]
    · have h1 := of_decide_eq_false h1
      have ej : j = (digs y).length := by omega
      conv => whnf
      refine ⟨i64 (by omega) (by omega), ?_⟩
      conv => whnf
      refine ⟨by omega, by show (i : Int) + ((digs y).length : Int) < (((digs x).length + (digs y).length : Nat) : Int); omega, ?_⟩
      conv => whnf
      refine ⟨i64 (by omega) (by omega), ?_⟩
      conv => whnf
      refine ⟨i + 1, by omega, Weak.gen [some 0, some 1, some 2, some 3] rfl ⟨boxK rfl rfl, boxK rfl rfl, boxK rfl rfl, ⟨_, rfl, rfl, rfl, rfl, rfl, fun p k hp hk => ⟨_, updN hk ?_, rfl⟩⟩, trivial⟩ ⟨⟨_, rfl, rfl, rfl⟩, ⟨_, rfl, rfl, rfl⟩, ⟨_, rfl, rfl, rfl⟩, .inl ⟨_, _, rfl, rfl, fun _ _ _ _ => rfl⟩, .inl ⟨_, _, rfl, rfl, fun _ _ _ _ => rfl⟩, ⟨_, rfl, rfl, rfl⟩, ⟨_, rfl, rfl⟩, trivial⟩, by omega⟩
      show (if p = ((i : Int) + ((digs y).length : Int)).toNat then IntKind.u32.wrap (mC (nv α i * y) (α i) i β j : Nat) else ((mD (nv α i * y) (α i) i β j p : Nat) : Int)) = (dg (nv α (i + 1) * y) p : Nat)
      rw [show ((i : Int) + ((digs y).length : Int)).toNat = i + (digs y).length by omega, w32, ej]
      have e1 := mD_end (V := nv α i * y) (a := α i) (i := i) (b := β) (m := (digs y).length) (hVl i h) (dx i (by omega)) dy p
      rw [mS_end vy] at e1
      rw [← e1, Nat.mod_eq_of_lt (mC_lt (dx i (by omega)) dy)]
      split <;> rfl
  · have h := of_decide_eq_false h
    have e : i = (digs x).length := by omega
    have g := hS (!(a.neg == b.neg))
    have g : FnOK Tryz.prog false 108 [.c (.bool (!(a.neg == b.neg))), .c (dn ((digs x).length + (digs y).length) (dg (nv α i * y)))] (.g (nz (sgn (!(a.neg == b.neg)) (x * y)))) := by
      rw [e, vx]; exact g
    conv => whnf
    refine ⟨fun _ _ _ _ => rfl, ?_⟩
    conv => whnf
    refine ⟨_, g, ?_⟩
    conv => whnf
    exact ⟨rfl, Sub.refl _⟩
end Rf
end Go.Proofs.YtigciplaoikcfaaGreat
