/- cyclotomic.times and over: products and quotients by x^d - 1. -/
import Derived.Test.YtmbejakmeijcbaaGreatZl19
import Derived.Test.YtmbejakmeijcbaaGreatZl13
namespace Go.Proofs.YtmbejakmeijcbaaGreat
open Go.RowKit
namespace Dv
def tp (d : Nat) (a : Nat → Int) (i j : Nat) : Int := (if d ≤ j ∧ j - d < i then a (j - d) else 0) - (if j < i then a j else 0)
abbrev iv (n : Nat) (a : Nat → Int) : Cell := .row 1 n fun i _ => .int .i64 (a i)
theorem updI {f : Nat → Nat → Cell} {c : Cell} {k i j : Nat} (hj : j < 1) : updF f k 0 [c] i j = if i = k then c else f i j := by
 obtain rfl := Nat.lt_one_iff.1 hj
 unfold updF
 by_cases e : i = k
 ·rw [if_pos ⟨e, Nat.zero_le _, by show 0 < 0 + 1; omega⟩, if_pos e]; rfl
 ·rw [if_neg (fun h => e h.1), if_neg e]
theorem tp_step {d : Nat} {a : Nat → Int} {i j : Nat} (h1 : 1 ≤ d) {x y : Int} (hx : x = tp d a i i - a i) (hy : y = tp d a i (i + d) + a i) {f : Nat → Nat → Cell} (hf : ∀ i' j', f i' j' = .int .i64 (tp d a i i')) {j' : Nat} (hj : j' < 1) : updF (updF f i 0 [.int .i64 x]) (i + d) 0 [.int .i64 y] j j' = .int .i64 (tp d a (i + 1) j) := by
 rw [updI hj]
 by_cases e : j = i + d
 ·rw [if_pos e, hy, e]
  unfold tp
  simp only [Nat.add_sub_cancel]
  rw [if_neg (by omega), if_neg (by omega), if_pos (by omega), if_neg (by omega)]
  congr 1
  omega
 ·rw [if_neg e, updI hj]
  by_cases e2 : j = i
  ·rw [if_pos e2, hx, e2]
   unfold tp
   congr 1
   rw [if_neg (show ¬ i < i by omega), if_pos (show i < i + 1 by omega)]
   by_cases c : d ≤ i ∧ i - d < i
   ·rw [if_pos c, if_pos (by omega)]; omega
   ·rw [if_neg c, if_neg (by omega)]; omega
  ·rw [if_neg e2, hf]
   unfold tp
   congr 1
   have A : (if d ≤ j ∧ j - d < i then a (j - d) else 0) = if d ≤ j ∧ j - d < i + 1 then a (j - d) else 0 := by
    by_cases c : d ≤ j ∧ j - d < i
    ·rw [if_pos c, if_pos (by omega)]
    ·rw [if_neg c, if_neg (by omega)]
   have B : (if j < i then a j else 0) = if j < i + 1 then a j else 0 := by
    by_cases c : j < i
    ·rw [if_pos c, if_pos (by omega)]
    ·rw [if_neg c, if_neg (by omega)]
   rw [A, B]
theorem tp_range {d : Nat} {a : Nat → Int} (ha : ∀ i, -1073741824 ≤ a i ∧ a i ≤ 1073741824) (i j : Nat) : -2147483648 ≤ tp d a i j ∧ tp d a i j ≤ 2147483648 := by
 unfold tp
 have h1 := ha (j - d)
 have h2 := ha j
 split <;> split <;> omega
theorem zero1 {i j : Nat} (hj : j < 1) : zeroF [.int .i64 0] i j = .int .i64 0 := by
 obtain rfl := Nat.lt_one_iff.1 hj
 rfl
def up (f : Nat → Int) (k : Nat) (x : Int) (j : Nat) : Int := if j = k then x else f j
theorem up_ok {f : Nat → Nat → Cell} {g g' : Nat → Int} {k : Nat} {x : Int} (hf : ∀ i j, f i j = .int .i64 (g i)) (hg : ∀ i, up g k x i = g' i) {i j : Nat} (hj : j < 1) : updF f k 0 [.int .i64 x] i j = .int .i64 (g' i) := by
 rw [updI hj, ← hg]
 unfold up
 split
 ·rfl
 ·exact hf i j
set_option maxHeartbeats 4000000 in
theorem times_ok {n d : Nat} {a : Nat → Int} (hn : n ≤ 4096) (h1 : 1 ≤ d) (hd : d ≤ 4096) (ha : ∀ i, -1073741824 ≤ a i ∧ a i ≤ 1073741824) : FnOK Tryz.prog false 65 [.c (iv n a), .c (.int .i64 d)] (.c (iv (n + d) (tp d a n))) := by
 have hT := tp_range (d := d) ha
 have t0 : ∀ j, Cell.int .i64 0 = .int .i64 (tp d a 0 j) := fun j => by unfold tp; rw [if_neg (by omega), if_neg (by omega)]; rfl
 have st : ∀ i j, up (up (tp d a i) i (tp d a i i - a i)) (i + d) (up (tp d a i) i (tp d a i i - a i) (i + d) + a i) j = tp d a (i + 1) j := fun i j => by
  have h := tp_step (d := d) (a := a) (i := i) (j := j) h1 rfl rfl (f := fun i' _ => .int .i64 (tp d a i i')) (fun _ _ => rfl) Nat.zero_lt_one
  rw [updI Nat.zero_lt_one, updI Nat.zero_lt_one] at h
  unfold up
  have e : (if i + d = i then tp d a i i - a i else tp d a i (i + d)) = tp d a i (i + d) := if_neg (by omega)
  rw [e]
  split at h
  ·rename_i c; rw [if_pos c]; exact (Cell.int.inj h).2
  ·rename_i c
   rw [if_neg c]
   split at h
   ·rename_i c; rw [if_pos c]; exact (Cell.int.inj h).2
   ·rename_i c; rw [if_neg c]; exact (Cell.int.inj h).2
 have hU : ∀ i, up (tp d a i) i (tp d a i i - a i) (i + d) = tp d a i (i + d) := fun i => if_neg (by omega)
 have hend : ∀ i : Nat, ¬ (i : Int) < n → i ≤ n → i = n := fun i h1 h2 => by omega
 obtain ⟨T, hTe⟩ : ∃ T, T = tp d a := ⟨_, rfl⟩
 rw [← hTe] at hT t0 st hU ⊢
 obtain ⟨U, hUe⟩ : ∃ U : Nat → Nat → Int, U = fun i => up (T i) i (T i i - a i) := ⟨_, rfl⟩
 have uo : ∀ i (f : Nat → Nat → Cell), (∀ x y, f x y = .int .i64 (T i x)) → ∀ x y, y < 1 → updF f i 0 [.int .i64 (T i i - a i)] x y = .int .i64 (U i x) := fun i f hf x y hy => up_ok hf (fun j => by rw [hUe]) hy
 have uo2 : ∀ i (f : Nat → Nat → Cell), (∀ x y, f x y = .int .i64 (U i x)) → ∀ x y, y < 1 → updF f (i + d) 0 [.int .i64 (U i (i + d) + a i)] x y = .int .i64 (T (i + 1) x) := fun i f hf x y hy => up_ok hf (fun j => by rw [hUe]; exact st i j) hy
 have hU : ∀ i, U i (i + d) = T i (i + d) := fun i => by rw [hUe]; exact hU i
 have hX : ∀ i, i = n → Sub (.c (iv (n + d) (T i))) (.c (iv (n + d) (T n))) := fun i e => by rw [e]; exact Sub.refl _
 clear hTe hUe st
 refine fn_okS (E := E0) E0_ok Tryz.func65 rfl (by kernel_rfl) ?_
 refine swp_seq0 E0_ok mixed (by kernel_rfl) ?_
 conv => whnf
 refine swp_seq0 E0_ok mixed (by kernel_rfl) ?_
 conv => whnf
 refine ⟨⟨by omega, by omega⟩, ?_⟩
 conv => whnf
 refine ⟨by omega, by omega, by omega, by show (8 : Int) * ((n : Int) + d) ≤ 281474976710656; omega, ?_⟩
 conv => whnf
 refine swp_seqS ?_
 refine swp_seq0 E0_ok mixed (by kernel_rfl) ?_
 conv => whnf
 refine swp_block ?_
 refine swp_loop (fun i : Nat => gst [(0, .c (iv n a)), (1, .c (.int .i64 d)), (5, .c (.gs 0 0)), (13, .c (iv n a)), (14, .c (.int .i64 n)), (15, .c (.int .i64 i))] [gI (n + d) (T i)]) (fun i => n - i) (fun i => i ≤ n) 0 (Weak.gen [some 0] rfl ⟨⟨_, rfl, rfl, rfl, rfl, rfl, fun x y hx hy => regE ((zero1 (i := x) hy).trans (t0 x)) rfl⟩, trivial⟩ ⟨.inl ⟨_, _, rfl, rfl, fun _ _ _ _ => rfl⟩, ⟨_, rfl, rfl⟩, ⟨_, rfl, rfl, rfl⟩, .inl ⟨_, _, rfl, rfl, fun _ _ _ _ => rfl⟩, ⟨_, rfl, rfl⟩, ⟨_, rfl, rfl⟩, trivial⟩) (Nat.zero_le _) fun i hi => ?_
 have uo := uo i
 have uo2 := uo2 i
 have hU := hU i
 have hT1 := hT i i
 have hT2 := hT i (i + d)
 have ha := ha i
 have hend := hend i
 have hX := hX i
 refine swp_seq0 E0_ok mixed (by kernel_rfl) ?_
 conv => whnf
 refine swp_seq0 E0_ok mixed (by kernel_rfl) ?_
 conv => whnf
 refine bcase (fun (h : decide ((i : Int) < n) = true) => ?_) fun (h : decide ((i : Int) < n) = false) => ?_
 ·have h := of_decide_eq_true h
  have m1 : n - (i + 1) < n - i := by omega
  have m2 : i + 1 ≤ n := by omega
  have hr : -9223372036854775808 ≤ U i (i + d) + a i ∧ U i (i + d) + a i < 9223372036854775808 := by omega
  conv => whnf
  refine swp_seqS (swp_block ?_)
  refine swp_seq0 E0_ok mixed (by kernel_rfl) ?_
  conv => whnf
  refine ⟨by omega, by omega, ?_⟩
  conv => whnf
  refine swp_seq E0_ok mixed (by kernel_rfl) ?_
  conv => whnf
  refine ⟨by omega, by show (i : Int) < ((n + d : Nat) : Int); omega, ?_⟩
  conv => whnf
  refine ⟨⟨by show (-9223372036854775808 : Int) ≤ T i i - a i; omega, by show T i i - a i < (9223372036854775808 : Int); omega⟩, ?_⟩
  conv => whnf
  refine ⟨by omega, by show (i : Int) < ((n + d : Nat) : Int); omega, ?_⟩
  conv => whnf
  refine ⟨gst [(0, .c (iv n a)), (1, .c (.int .i64 d)), (5, .c (.gs 0 0)), (6, .c (.int .i64 i)), (7, .c (.int .i64 (a i))), (13, .c (iv n a)), (14, .c (.int .i64 n)), (15, .c (.int .i64 i))] [gI (n + d) (U i)], Weak.gen [some 0] rfl ⟨⟨_, rfl, rfl, rfl, rfl, rfl, fun x y hx hy => regE (uo _ (fun _ _ => rfl) x y hy) rfl⟩, trivial⟩ ⟨.inl ⟨_, _, rfl, rfl, fun _ _ _ _ => rfl⟩, ⟨_, rfl, rfl⟩, ⟨_, rfl, rfl, rfl⟩, ⟨_, rfl, rfl⟩, ⟨_, rfl, rfl⟩, .inl ⟨_, _, rfl, rfl, fun _ _ _ _ => rfl⟩, ⟨_, rfl, rfl⟩, ⟨_, rfl, rfl⟩, trivial⟩, ?_⟩
  refine swp_of E0_ok mixed (by kernel_rfl) ?_
  conv => whnf
  refine ⟨⟨by omega, by omega⟩, ?_⟩
  conv => whnf
  refine ⟨by omega, by show (i : Int) + d < ((n + d : Nat) : Int); omega, ?_⟩
  conv => whnf
  refine ⟨hr, ?_⟩
  conv => whnf
  refine ⟨by omega, by show (i : Int) + d < ((n + d : Nat) : Int); omega, ?_⟩
  conv => whnf
  refine swp_of E0_ok mixed (by kernel_rfl) ?_
  conv => whnf
  refine ⟨⟨by omega, by omega⟩, ?_⟩
  conv => whnf
  exact ⟨i + 1, m1, Weak.gen [some 0] rfl ⟨⟨_, rfl, rfl, rfl, rfl, rfl, fun x y hx hy => regE (uo2 _ (fun _ _ => rfl) x y hy) rfl⟩, trivial⟩ ⟨.inl ⟨_, _, rfl, rfl, fun _ _ _ _ => rfl⟩, ⟨_, rfl, rfl⟩, ⟨_, rfl, rfl, rfl⟩, .inl ⟨_, _, rfl, rfl, fun _ _ _ _ => rfl⟩, ⟨_, rfl, rfl⟩, ⟨_, rfl, rfl⟩, trivial⟩, m2⟩
 ·have h := of_decide_eq_false h
  have hX := hX (hend h hi)
  conv => whnf
  refine swp_seq0 E0_ok mixed (by kernel_rfl) ?_
  conv => whnf
  refine swp_of E0_ok mixed (by kernel_rfl) ?_
  conv => whnf
  refine ⟨fun _ _ _ _ => rfl, ?_⟩
  conv => whnf
  exact ⟨rfl, hX⟩
end Dv
end Go.Proofs.YtmbejakmeijcbaaGreat
/- slices.Clone in its caller's blocks; a region with a call of that kind; cyclotomic.over. -/
namespace Go.Proofs.YtmbejakmeijcbaaGreat
open Go.RowKit
theorem swp_go {E : Env} (hE : EnvOK E) {N id : Nat} {ops : Array Oper} {pre post : List Oper} {o : Oper} (hl : ops.toList = pre ++ o :: post) (hg : o.guard = none) (hdst : (ops.toList.all (dstB N)) = true) {σ : St} {R : Exit → St → Prop}
  (h : aops E ops pre σ fun τ => ∃ τ', OpGo E o τ τ' ∧ aops E ops post τ' (R .normal)) : Swp E N (.region id ops false) σ R := by
 refine ⟨fun C a w h1 h2 h3 hr => ?_⟩
 have hdo : ∀ o' ∈ ops.toList, dstOK C.N o'.dst := by
  intro o' ho d hd'
  have := List.all_eq_true.1 hdst o' ho
  unfold dstB at this
  rw [hd'] at this
  rw [h3]
  simpa using this
 refine wp_region_list ?_
 rw [hl] at hdo ⊢
 refine aops_app hE h1 (fun τ a w hk hrel => ?_) pre σ a w (fun o' ho => hdo o' (by simp [ho])) h hr
 obtain ⟨τ', hgo, hrest⟩ := hk
 unfold wpList
 rw [if_pos (by simp [Region.wanted, hg])]
 refine .inl (hgo h1 (hdo o (by simp)) hrel fun a' w' hrel' => ?_)
 exact aops_sound hE h1 (fun σ a w hk hrel => ⟨σ, hrel, hk⟩) post _ a' w' (fun o' ho => hdo o' (by simp [ho])) hrest hrel'
namespace Dv
theorem app00 {f : Nat → Nat → Cell} {a : Nat → Int} {x y : Nat} : appF 0 f (fun i _ => .int .i64 (a i)) x y = .int .i64 (a x) := by
 unfold appF
 rw [if_neg (by omega), Nat.sub_zero]
set_option maxHeartbeats 4000000 in
theorem clone_s {n : Nat} {a : Nat → Int} (h0 : 0 < n) (hn : n ≤ 1048576) : FnS Tryz.prog false 100 [] [.c (iv n a)] (.c (.gs 0 0)) [gb (gI n a)] := by
 refine fns_okS (E := E0) E0_ok Tryz.func100 rfl (by kernel_rfl) rfl ?_
 refine swp_of E0_ok mixed (by kernel_rfl) ?_
 conv => whnf
 refine ⟨h0, ?_⟩
 conv => whnf
 refine ⟨by show 0 + n ≤ 16777216; omega, fun x y hx hy => ?_, ?_⟩
 ·exact ⟨rfl, fun h => by cases h⟩
 conv => whnf
 show Weak 0 ⟨_, _⟩ (gst [(0, V.c (.gs 0 0))] [gI n a])
 exact Weak.gen [some 0] rfl ⟨⟨_, rfl, rfl, rfl, Nat.zero_add n, rfl, fun x y hx hy => regE (app00 (f := fun _ _ => Cell.any) (y := y)) rfl⟩, trivial⟩ ⟨⟨_, rfl, rfl, rfl⟩, trivial⟩
def e6 : Nat → Int
 | 0 => -1
 | i + 1 => i
theorem e6_eq (k : Nat) : (k : Int) - 1 = e6 k := by
 cases k with
 | zero => rfl
 | succ i => show ((i + 1 : Nat) : Int) - 1 = (i : Int); omega
def oF (d t : Nat) (q : Nat → Int) (k j : Nat) : Int := if k ≤ j ∧ j < t then tp d q t j + q j else tp d q t j
def oQ (q : Nat → Int) (k j : Nat) : Int := if k ≤ j then q j else 0
theorem oF_at {d t i : Nat} {q : Nat → Int} (h1 : 1 ≤ d) (hi : i < t) : oF d t q (i + 1) (i + d) = q i := by
 unfold oF tp
 rw [Nat.add_sub_cancel]
 by_cases c : i + d < t
 ·rw [if_pos ⟨by omega, c⟩, if_pos ⟨by omega, hi⟩, if_pos c]; omega
 ·rw [if_neg (by omega), if_pos ⟨by omega, hi⟩, if_neg c]; omega
theorem oF_next {d t i : Nat} {q : Nat → Int} (hi : i < t) (j : Nat) : up (oF d t q (i + 1)) i (oF d t q (i + 1) i + oQ q i i) j = oF d t q i j := by
 unfold up oF oQ
 by_cases e : j = i
 ·rw [if_pos e, e, if_neg (by omega), if_pos (Nat.le_refl i), if_pos ⟨Nat.le_refl i, hi⟩]
 ·rw [if_neg e]
  by_cases c : i ≤ j ∧ j < t
  ·rw [if_pos c, if_pos (by omega)]
  ·rw [if_neg c, if_neg (by omega)]
theorem oQ_next {i : Nat} {q : Nat → Int} (j : Nat) : up (oQ q (i + 1)) i (q i) j = oQ q i j := by
 unfold up oQ
 by_cases e : j = i
 ·rw [if_pos e, e, if_pos (Nat.le_refl i)]
 ·rw [if_neg e]
  by_cases c : i ≤ j
  ·rw [if_pos c, if_pos (by omega)]
  ·rw [if_neg c, if_neg (by omega)]
set_option maxHeartbeats 4000000 in
set_option maxRecDepth 100000 in
theorem over_ok {t d : Nat} {q : Nat → Int} (ht : t ≤ 4096) (h1 : 1 ≤ d) (hd : d ≤ 4096) (ha : ∀ i, -1073741824 ≤ q i ∧ q i ≤ 1073741824) : FnOK Tryz.prog false 66 [.c (iv (t + d) (tp d q t)), .c (.int .i64 d)] (.c (iv t q)) := by
 have hC := clone_s (n := t + d) (a := tp d q t) (by omega) (by omega)
 have s0 : ∀ x, tp d q t x = oF d t q t x := fun x => by unfold oF; rw [if_neg (by omega)]
 have s1 : ∀ x, x < t → Cell.int .i64 0 = .int .i64 (oQ q t x) := fun x hx => by unfold oQ; rw [if_neg (by omega)]
 have s2 : ∀ i, i < t → oF d t q (i + 1) (i + d) = q i := fun i hi => oF_at h1 hi
 have s3 : ∀ i, i < t → ∀ j, up (oF d t q (i + 1)) i (oF d t q (i + 1) i + oQ q i i) j = oF d t q i j := fun i hi j => oF_next hi j
 have s4 : ∀ i j, up (oQ q (i + 1)) i (q i) j = oQ q i j := fun i j => oQ_next j
 have s5 : ∀ i, i < t → -9223372036854775808 ≤ oF d t q (i + 1) i + oQ q i i ∧ oF d t q (i + 1) i + oQ q i i < 9223372036854775808 := fun i hi => by
  have h1 := tp_range (d := d) ha t i
  have h2 := ha i
  unfold oF oQ
  rw [if_neg (by omega), if_pos (Nat.le_refl i)]
  omega
 have s6 : ∀ x, Cell.int .i64 (oQ q 0 x) = .int .i64 (q x) := fun x => by unfold oQ; rw [if_pos (Nat.zero_le x)]
 have hX : Sub (.c (iv t (oQ q 0))) (.c (iv t q)) := by
  have e : oQ q 0 = q := funext fun x => by unfold oQ; rw [if_pos (Nat.zero_le x)]
  rw [e]; exact Sub.refl _
 have nt : (((t + d : Nat) : Int) - (d : Int)).toNat = t := by omega
 obtain ⟨T, hT⟩ : ∃ T, T = tp d q t := ⟨_, rfl⟩
 rw [← hT] at hC s0 ⊢
 obtain ⟨Ff, hF⟩ : ∃ Ff, Ff = oF d t q := ⟨_, rfl⟩
 rw [← hF] at s0 s2 s3 s5
 obtain ⟨Q, hQ⟩ : ∃ Q, Q = oQ q := ⟨_, rfl⟩
 rw [← hQ] at s1 s3 s4 s5 s6 hX
 clear hT hF hQ
 refine fn_okS (E := E0) E0_ok Tryz.func66 rfl (by kernel_rfl) ?_
 refine swp_seq0 E0_ok mixed (by kernel_rfl) ?_
 conv => whnf
 refine swp_seqS (swp_go E0_ok (pre := [_]) (post := [_]) rfl rfl (by kernel_rfl) ?_)
 conv => whnf
 refine ⟨_, OpGo.call (f := 100) (cs := []) rfl rfl hC, ?_⟩
 conv => whnf
 refine Swp.weak (σ2 := gst [(0, .c (.gs 0 0)), (1, .c (.int .i64 d))] [gI (t + d) T]) (Weak.gen [some 0] rfl ⟨⟨_, rfl, rfl, rfl, rfl, rfl, fun x y hx hy => regE rfl rfl⟩, trivial⟩ ⟨⟨_, rfl, rfl, rfl⟩, ⟨_, rfl, rfl⟩, trivial⟩) ?_
 refine swp_seq E0_ok mixed (by kernel_rfl) ?_
 conv => whnf
 refine ⟨⟨by show (-9223372036854775808 : Int) ≤ ((t + d : Nat) : Int) - d; omega, by show ((t + d : Nat) : Int) - d < (9223372036854775808 : Int); omega⟩, ?_⟩
 conv => whnf
 refine ⟨by show (0 : Int) ≤ ((t + d : Nat) : Int) - d; omega, by show ((t + d : Nat) : Int) - d ≤ ((t + d : Nat) : Int) - d; omega, by show ((t + d : Nat) : Int) - d ≤ 281474976710656; omega, by show (8 : Int) * (((t + d : Nat) : Int) - d) ≤ 281474976710656; omega, ?_⟩
 conv => whnf
 refine ⟨gst [(0, .c (.gs 0 0)), (1, .c (.int .i64 d)), (5, .c (.gs 1 0))] [gI (t + d) T, gI t (Q t)], Weak.gen [some 0, some 1] rfl ⟨⟨_, rfl, rfl, rfl, rfl, rfl, fun x y hx hy => regE rfl rfl⟩, ⟨_, rfl, rfl, rfl, nt, rfl, fun x y hx hy => regE ((zero1 (i := x) hy).trans (s1 x hx)) rfl⟩, trivial⟩ ⟨⟨_, rfl, rfl, rfl⟩, ⟨_, rfl, rfl⟩, ⟨_, rfl, rfl, rfl⟩, trivial⟩, ?_⟩
 refine swp_seqS ?_
 refine swp_seq0 E0_ok mixed (by kernel_rfl) ?_
 conv => whnf
 refine ⟨⟨by show (-9223372036854775808 : Int) ≤ (t : Int) - 1; omega, by show (t : Int) - 1 < (9223372036854775808 : Int); omega⟩, ?_⟩
 conv => whnf
 refine swp_block ?_
 refine swp_loop (fun k : Nat => gst [(0, .c (.gs 0 0)), (1, .c (.int .i64 d)), (5, .c (.gs 1 0)), (6, .c (.int .i64 (e6 k)))] [gI (t + d) (Ff k), gI t (Q k)]) (fun k => k) (fun k => k ≤ t) t (Weak.gen [some 0, some 1] rfl ⟨⟨_, rfl, rfl, rfl, rfl, rfl, fun x y hx hy => regE (congrArg (Cell.int .i64) (s0 x)) rfl⟩, ⟨_, rfl, rfl, rfl, rfl, rfl, fun x y hx hy => regE rfl rfl⟩, trivial⟩ ⟨⟨_, rfl, rfl, rfl⟩, ⟨_, rfl, rfl⟩, ⟨_, rfl, rfl, rfl⟩, ⟨_, rfl, e6_eq t⟩, trivial⟩) (Nat.le_refl t) fun k hk => ?_
 match k, hk with
 | 0, _ =>
  refine swp_seqS ?_
  refine swp_seq0 E0_ok mixed (by kernel_rfl) ?_
  conv => whnf
  refine swp_of E0_ok mixed (by kernel_rfl) ?_
  conv => whnf
  refine swp_of E0_ok mixed (by kernel_rfl) ?_
  conv => whnf
  refine ⟨fun _ _ _ _ => rfl, ?_⟩
  conv => whnf
  exact ⟨rfl, hX⟩
 | i + 1, hk =>
  have hi : i < t := hk
  have s4 : ∀ j, up (Q (i + 1)) i (Ff (i + 1) (i + d)) j = Q i j := fun j => by rw [s2 i hi]; exact s4 i j
  have s3 := s3 i hi
  have s5 := s5 i hi
  have m1 : i < i + 1 := by omega
  have m2 : i ≤ t := by omega
  refine swp_seqS ?_
  refine swp_seq0 E0_ok mixed (by kernel_rfl) ?_
  conv => whnf
  refine swp_of E0_ok mixed (by kernel_rfl) ?_
  conv => whnf
  refine swp_seqS (swp_block ?_)
  refine swp_seq E0_ok mixed (by kernel_rfl) ?_
  conv => whnf
  refine ⟨⟨by show (-9223372036854775808 : Int) ≤ (i : Int) + d; omega, by show (i : Int) + d < (9223372036854775808 : Int); omega⟩, ?_⟩
  conv => whnf
  refine ⟨by show (0 : Int) ≤ (i : Int) + d; omega, by show (i : Int) + d < ((t + d : Nat) : Int); omega, ?_⟩
  conv => whnf
  refine ⟨by show (0 : Int) ≤ (i : Int); omega, by show (i : Int) < (t : Int); omega, ?_⟩
  conv => whnf
  refine ⟨gst [(0, .c (.gs 0 0)), (1, .c (.int .i64 d)), (5, .c (.gs 1 0)), (6, .c (.int .i64 i))] [gI (t + d) (Ff (i + 1)), gI t (Q i)], Weak.gen [some 0, some 1] rfl ⟨⟨_, rfl, rfl, rfl, rfl, rfl, fun x y hx hy => regE rfl rfl⟩, ⟨_, rfl, rfl, rfl, rfl, rfl, fun x y hx hy => regE (up_ok (fun _ _ => rfl) s4 hy) rfl⟩, trivial⟩ ⟨⟨_, rfl, rfl, rfl⟩, ⟨_, rfl, rfl⟩, ⟨_, rfl, rfl, rfl⟩, ⟨_, rfl, rfl⟩, trivial⟩, ?_⟩
  refine swp_of E0_ok mixed (by kernel_rfl) ?_
  conv => whnf
  refine ⟨by omega, by show (i : Int) < ((t + d : Nat) : Int); omega, ?_⟩
  conv => whnf
  refine ⟨by omega, by show (i : Int) < (t : Int); omega, ?_⟩
  conv => whnf
  refine ⟨s5, ?_⟩
  conv => whnf
  refine ⟨by omega, by show (i : Int) < ((t + d : Nat) : Int); omega, ?_⟩
  conv => whnf
  refine swp_of E0_ok mixed (by kernel_rfl) ?_
  conv => whnf
  refine ⟨⟨by omega, by omega⟩, ?_⟩
  conv => whnf
  exact ⟨i, m1, Weak.gen [some 0, some 1] rfl ⟨⟨_, rfl, rfl, rfl, rfl, rfl, fun x y hx hy => regE (up_ok (fun _ _ => rfl) s3 hy) rfl⟩, ⟨_, rfl, rfl, rfl, rfl, rfl, fun x y hx hy => regE rfl rfl⟩, trivial⟩ ⟨⟨_, rfl, rfl, rfl⟩, ⟨_, rfl, rfl⟩, ⟨_, rfl, rfl, rfl⟩, ⟨_, rfl, e6_eq i⟩, trivial⟩, m2⟩
end Dv
end Go.Proofs.YtmbejakmeijcbaaGreat
/- times and over as a table for the evaluator. -/
namespace Go.Proofs.YtmbejakmeijcbaaGreat
open Go.RowKit
theorem FnOK.same {P : Program} {r : Bool} {f : FuncId} {x y d X : V} (h : FnOK P r f [y, d] X) (hs : sameV x y = true) : FnOK P r f [x, d] X := by
 refine ⟨h.1, fun D w vs h1 h2 hargs => h.2 D w vs h1 h2 ?_⟩
 match vs, hargs with
 | [u, v], hargs => exact ⟨sameV_ok x y hs D w u hargs.1, hargs.2⟩
 | [], hargs => exact hargs.elim
 | [_], hargs => exact hargs.2.elim
 | _ :: _ :: _ :: _, hargs => exact hargs.2.2.elim
def smallI (x : Int) : Bool := decide (-1073741824 ≤ x) && decide (x ≤ 1073741824)
def smallL (l : List Int) : Bool := l.all smallI
theorem smallL_ok {l : List Int} (h : smallL l = true) (i : Nat) : -1073741824 ≤ l.getD i 0 ∧ l.getD i 0 ≤ 1073741824 := by
 rw [List.getD_eq_getElem?_getD]
 cases hx : l[i]? with
 | none => exact ⟨by decide, by decide⟩
 | some x =>
  have := List.all_eq_true.1 h x (List.mem_of_getElem? hx)
  unfold smallI at this
  simp only [Bool.and_eq_true, decide_eq_true_eq] at this
  exact this
def ovL (d : Nat) (f : Nat → Int) : Nat → List Int → List Int
 | 0, acc => acc
 | i + 1, acc => ovL d f i ((f (i + d) + acc.getD (d - 1) 0) :: acc)
def tmX (n d : Nat) (g : Nat → Nat → Cell) : Option V :=
 let l := (List.range n).map fun i => valC (g i 0)
 match decide (n ≤ 4096) && decide (1 ≤ d) && decide (d ≤ 4096) && smallL l && sameV (.c (.row 1 n g)) (.c (Dv.iv n fun i => l.getD i 0)) with
 | true => some (.c (Dv.iv (n + d) (Dv.tp d (fun i => l.getD i 0) n)))
 | false => none
def ovX (n d : Nat) (g : Nat → Nat → Cell) : Option V :=
 let l := ovL d (fun i => valC (g i 0)) (n - d) []
 match decide (n - d ≤ 4096) && decide (1 ≤ d) && decide (d ≤ 4096) && smallL l && sameV (.c (.row 1 n g)) (.c (Dv.iv (n - d + d) (Dv.tp d (fun i => l.getD i 0) (n - d)))) with
 | true => some (.c (Dv.iv (n - d) fun i => l.getD i 0))
 | false => none
theorem tmX_ok {n d : Nat} {g : Nat → Nat → Cell} {X : V} (h : tmX n d g = some X) : FnOK Tryz.prog false 65 [.c (.row 1 n g), .c (.int .i64 d)] X := by
 unfold tmX at h
 simp only at h
 split at h
 ·rename_i hb
  cases h
  simp only [Bool.and_eq_true, decide_eq_true_eq] at hb
  obtain ⟨⟨⟨⟨h1, h2⟩, h3⟩, h4⟩, h5⟩ := hb
  exact (Dv.times_ok h1 h2 h3 (smallL_ok h4)).same h5
 ·cases h
theorem ovX_ok {n d : Nat} {g : Nat → Nat → Cell} {X : V} (h : ovX n d g = some X) : FnOK Tryz.prog false 66 [.c (.row 1 n g), .c (.int .i64 d)] X := by
 unfold ovX at h
 simp only at h
 split at h
 ·rename_i hb
  cases h
  simp only [Bool.and_eq_true, decide_eq_true_eq] at hb
  obtain ⟨⟨⟨⟨h1, h2⟩, h3⟩, h4⟩, h5⟩ := hb
  exact (Dv.over_ok h1 h2 h3 (smallL_ok h4)).same h5
 ·cases h
def orcP (f : FuncId) (l : List V) : Option V := match orcC f l with
 | some X => some X
 | none => match l with
  | [.c (.row 1 n g), .c (.int .i64 (.ofNat d))] => match f == 65 with
   | true => tmX n d g
   | false => match f == 66 with
    | true => ovX n d g
    | false => none
  | _ => none
theorem orcP_ok (f : FuncId) (l : List V) (X : V) (h : orcP f l = some X) : FnOK Tryz.prog false f l X := by
 unfold orcP at h
 split at h
 ·rename_i Y hY
  cases h
  exact orcC_ok f l _ hY
 ·split at h
  ·rename_i n g d
   split at h
   ·rename_i hf
    rw [beq_iff_eq.1 hf]
    exact tmX_ok h
   ·split at h
    ·rename_i hf
     rw [beq_iff_eq.1 hf]
     exact ovX_ok h
    ·cases h
  ·cases h
def dvIn : List FuncId := [95, 96, 97, 139, 172, 98, 141, 99, 106, 183, 160]
def dvI (f : FuncId) : Bool := dvIn.contains f
abbrev lf (l : List Int) (i : Nat) : Int := l.getD i 0
end Go.Proofs.YtmbejakmeijcbaaGreat
