/- cyclotomic.times and over: products and quotients by x^d - 1. -/
import Derived.Test.YtmbejakmeijcbaaGreatZr8
import Derived.Test.YtmbejakmeijcbaaGreatZr12
import Derived.Test.YtmbejakmeijcbaaGreatZr5
namespace Go.Proofs.YtmbejakmeijcbaaGreat
open Go.RowKit
namespace Dv
def tp (d : Nat) (a : Nat → Int) (i j : Nat) : Int := (if d ≤ j ∧ j - d < i then a (j - d) else 0) - (if j < i then a j else 0)
abbrev iv (n : Nat) (a : Nat → Int) : Cell := .row 1 n fun i _ => .int .i64 (a i)
theorem updI {f : Nat → Nat → Cell} {c : Cell} {k i j : Nat} (hj : j < 1) : updF f k 0 [c] i j = if i = k then c else f i j := by
 obtain rfl := Nat.lt_one_iff.1 hj
 unfold updF
 by_cases e : i = k
 ·rw [if_pos ⟨e, Nat.zero_le _, by show 0 < 0 + 1; omega⟩, if_pos e]; rfl
 ·rw [if_neg (fun h => e h.1), if_neg e]
theorem tp_step {d : Nat} {a : Nat → Int} {i j : Nat} (h1 : 1 ≤ d) {x y : Int} (hx : x = tp d a i i - a i) (hy : y = tp d a i (i + d) + a i) {f : Nat → Nat → Cell} (hf : ∀ i' j', f i' j' = .int .i64 (tp d a i i')) {j' : Nat} (hj : j' < 1) : updF (updF f i 0 [.int .i64 x]) (i + d) 0 [.int .i64 y] j j' = .int .i64 (tp d a (i + 1) j) := by
 rw [updI hj]
 by_cases e : j = i + d
 ·rw [if_pos e, hy, e]
  unfold tp
  simp only [Nat.add_sub_cancel]
  rw [if_neg (by omega), if_neg (by omega), if_pos (by omega), if_neg (by omega)]
  congr 1
  omega
 ·rw [if_neg e, updI hj]
  by_cases e2 : j = i
  ·rw [if_pos e2, hx, e2]
   unfold tp
   congr 1
   rw [if_neg (show ¬ i < i by omega), if_pos (show i < i + 1 by omega)]
   by_cases c : d ≤ i ∧ i - d < i
   ·rw [if_pos c, if_pos (by omega)]; omega
   ·rw [if_neg c, if_neg (by omega)]; omega
  ·rw [if_neg e2, hf]
   unfold tp
   congr 1
   have A : (if d ≤ j ∧ j - d < i then a (j - d) else 0) = if d ≤ j ∧ j - d < i + 1 then a (j - d) else 0 := by
    by_cases c : d ≤ j ∧ j - d < i
    ·rw [if_pos c, if_pos (by omega)]
    ·rw [if_neg c, if_neg (by omega)]
   have B : (if j < i then a j else 0) = if j < i + 1 then a j else 0 := by
    by_cases c : j < i
    ·rw [if_pos c, if_pos (by omega)]
    ·rw [if_neg c, if_neg (by omega)]
   rw [A, B]
theorem tp_range {d : Nat} {a : Nat → Int} (ha : ∀ i, -1073741824 ≤ a i ∧ a i ≤ 1073741824) (i j : Nat) : -2147483648 ≤ tp d a i j ∧ tp d a i j ≤ 2147483648 := by
 unfold tp
 have h1 := ha (j - d)
 have h2 := ha j
 split <;> split <;> omega
theorem zero1 {i j : Nat} (hj : j < 1) : zeroF [.int .i64 0] i j = .int .i64 0 := by
 obtain rfl := Nat.lt_one_iff.1 hj
 rfl
def up (f : Nat → Int) (k : Nat) (x : Int) (j : Nat) : Int := if j = k then x else f j
theorem up_ok {f : Nat → Nat → Cell} {g g' : Nat → Int} {k : Nat} {x : Int} (hf : ∀ i j, f i j = .int .i64 (g i)) (hg : ∀ i, up g k x i = g' i) {i j : Nat} (hj : j < 1) : updF f k 0 [.int .i64 x] i j = .int .i64 (g' i) := by
 rw [updI hj, ← hg]
 unfold up
 split
 ·rfl
 ·exact hf i j
set_option maxHeartbeats 4000000 in
theorem times_ok {n d : Nat} {a : Nat → Int} (hn : n ≤ 4096) (h1 : 1 ≤ d) (hd : d ≤ 4096) (ha : ∀ i, -1073741824 ≤ a i ∧ a i ≤ 1073741824) : FnOK Tryz.prog false 65 [.c (iv n a), .c (.int .i64 d)] (.c (iv (n + d) (tp d a n))) := by
 have hT := tp_range (d := d) ha
 have t0 : ∀ j, Cell.int .i64 0 = .int .i64 (tp d a 0 j) := fun j => by unfold tp; rw [if_neg (by omega), if_neg (by omega)]; rfl
 have st : ∀ i j, up (up (tp d a i) i (tp d a i i - a i)) (i + d) (up (tp d a i) i (tp d a i i - a i) (i + d) + a i) j = tp d a (i + 1) j := fun i j => by
  have h := tp_step (d := d) (a := a) (i := i) (j := j) h1 rfl rfl (f := fun i' _ => .int .i64 (tp d a i i')) (fun _ _ => rfl) Nat.zero_lt_one
  rw [updI Nat.zero_lt_one, updI Nat.zero_lt_one] at h
  unfold up
  have e : (if i + d = i then tp d a i i - a i else tp d a i (i + d)) = tp d a i (i + d) := if_neg (by omega)
  rw [e]
  split at h
  ·rename_i c; rw [if_pos c]; exact (Cell.int.inj h).2
  ·rename_i c
   rw [if_neg c]
   split at h
   ·rename_i c; rw [if_pos c]; exact (Cell.int.inj h).2
   ·rename_i c; rw [if_neg c]; exact (Cell.int.inj h).2
 have hU : ∀ i, up (tp d a i) i (tp d a i i - a i) (i + d) = tp d a i (i + d) := fun i => if_neg (by omega)
 have hend : ∀ i : Nat, ¬ (i : Int) < n → i ≤ n → i = n := fun i h1 h2 => by omega
 obtain ⟨T, hTe⟩ : ∃ T, T = tp d a := ⟨_, rfl⟩
 rw [← hTe] at hT t0 st hU ⊢
 obtain ⟨U, hUe⟩ : ∃ U : Nat → Nat → Int, U = fun i => up (T i) i (T i i - a i) := ⟨_, rfl⟩
 have uo : ∀ i (f : Nat → Nat → Cell), (∀ x y, f x y = .int .i64 (T i x)) → ∀ x y, y < 1 → updF f i 0 [.int .i64 (T i i - a i)] x y = .int .i64 (U i x) := fun i f hf x y hy => up_ok hf (fun j => by rw [hUe]) hy
 have uo2 : ∀ i (f : Nat → Nat → Cell), (∀ x y, f x y = .int .i64 (U i x)) → ∀ x y, y < 1 → updF f (i + d) 0 [.int .i64 (U i (i + d) + a i)] x y = .int .i64 (T (i + 1) x) := fun i f hf x y hy => up_ok hf (fun j => by rw [hUe]; exact st i j) hy
 have hU : ∀ i, U i (i + d) = T i (i + d) := fun i => by rw [hUe]; exact hU i
 have hX : ∀ i, i = n → Sub (.c (iv (n + d) (T i))) (.c (iv (n + d) (T n))) := fun i e => by rw [e]; exact Sub.refl _
 clear hTe hUe st
 refine fn_okS (E := E0) E0_ok Tryz.func65 rfl (by kernel_rfl) ?_
 refine swp_seq0 E0_ok mixed (by kernel_rfl) ?_
 conv => whnf
 refine swp_seq0 E0_ok mixed (by kernel_rfl) ?_
 conv => whnf
 refine ⟨⟨by omega, by omega⟩, ?_⟩
 conv => whnf
 refine ⟨by omega, by omega, by omega, by show (8 : Int) * ((n : Int) + d) ≤ 281474976710656; omega, ?_⟩
 conv => whnf
 refine swp_seqS ?_
 refine swp_seq0 E0_ok mixed (by kernel_rfl) ?_
 conv => whnf
 refine swp_block ?_
 refine swp_loop (fun i : Nat => gst [(0, .c (iv n a)), (1, .c (.int .i64 d)), (5, .c (.gs 0 0)), (13, .c (iv n a)), (14, .c (.int .i64 n)), (15, .c (.int .i64 i))] [gI (n + d) (T i)]) (fun i => n - i) (fun i => i ≤ n) 0 (Weak.gen [some 0] rfl ⟨⟨_, rfl, rfl, rfl, rfl, rfl, fun x y hx hy => regE ((zero1 (i := x) hy).trans (t0 x)) rfl⟩, trivial⟩ ⟨.inl ⟨_, _, rfl, rfl, fun _ _ _ _ => rfl⟩, ⟨_, rfl, rfl⟩, ⟨_, rfl, rfl, rfl⟩, .inl ⟨_, _, rfl, rfl, fun _ _ _ _ => rfl⟩, ⟨_, rfl, rfl⟩, ⟨_, rfl, rfl⟩, trivial⟩) (Nat.zero_le _) fun i hi => ?_
 have uo := uo i
 have uo2 := uo2 i
 have hU := hU i
 have hT1 := hT i i
 have hT2 := hT i (i + d)
 have ha := ha i
 have hend := hend i
 have hX := hX i
 refine swp_seq0 E0_ok mixed (by kernel_rfl) ?_
 conv => whnf
 refine swp_seq0 E0_ok mixed (by kernel_rfl) ?_
 conv => whnf
 refine bcase (fun (h : decide ((i : Int) < n) = true) => ?_) fun (h : decide ((i : Int) < n) = false) => ?_
 ·have h := of_decide_eq_true h
  have m1 : n - (i + 1) < n - i := by omega
  have m2 : i + 1 ≤ n := by omega
  have hr : -9223372036854775808 ≤ U i (i + d) + a i ∧ U i (i + d) + a i < 9223372036854775808 := by omega
  conv => whnf
  refine swp_seqS (swp_block ?_)
  refine swp_seq0 E0_ok mixed (by kernel_rfl) ?_
  conv => whnf
  refine ⟨by omega, by omega, ?_⟩
  conv => whnf
  refine swp_seq E0_ok mixed (by kernel_rfl) ?_
  conv => whnf
  refine ⟨by omega, by show (i : Int) < ((n + d : Nat) : Int); omega, ?_⟩
  conv => whnf
  refine ⟨⟨by show (-9223372036854775808 : Int) ≤ T i i - a i; omega, by show T i i - a i < (9223372036854775808 : Int); omega⟩, ?_⟩
  conv => whnf
  refine ⟨by omega, by show (i : Int) < ((n + d : Nat) : Int); omega, ?_⟩
  conv => whnf
  refine ⟨gst [(0, .c (iv n a)), (1, .c (.int .i64 d)), (5, .c (.gs 0 0)), (6, .c (.int .i64 i)), (7, .c (.int .i64 (a i))), (13, .c (iv n a)), (14, .c (.int .i64 n)), (15, .c (.int .i64 i))] [gI (n + d) (U i)], Weak.gen [some 0] rfl ⟨⟨_, rfl, rfl, rfl, rfl, rfl, fun x y hx hy => regE (uo _ (fun _ _ => rfl) x y hy) rfl⟩, trivial⟩ ⟨.inl ⟨_, _, rfl, rfl, fun _ _ _ _ => rfl⟩, ⟨_, rfl, rfl⟩, ⟨_, rfl, rfl, rfl⟩, ⟨_, rfl, rfl⟩, ⟨_, rfl, rfl⟩, .inl ⟨_, _, rfl, rfl, fun _ _ _ _ => rfl⟩, ⟨_, rfl, rfl⟩, ⟨_, rfl, rfl⟩, trivial⟩, ?_⟩
  refine swp_of E0_ok mixed (by kernel_rfl) ?_
  conv => whnf
  refine ⟨⟨by omega, by omega⟩, ?_⟩
  conv => whnf
  refine ⟨by omega, by show (i : Int) + d < ((n + d : Nat) : Int); omega, ?_⟩
  conv => whnf
  refine ⟨hr, ?_⟩
  conv => whnf
  refine ⟨by omega, by show (i : Int) + d < ((n + d : Nat) : Int); omega, ?_⟩
  conv => whnf
  refine swp_of E0_ok mixed (by kernel_rfl) ?_
  conv => whnf
  refine ⟨⟨by omega, by omega⟩, ?_⟩
  conv => whnf
  exact ⟨i + 1, m1, Weak.gen [some 0] rfl ⟨⟨_, rfl, rfl, rfl, rfl, rfl, fun x y hx hy => regE (uo2 _ (fun _ _ => rfl) x y hy) rfl⟩, trivial⟩ ⟨.inl ⟨_, _, rfl, rfl, fun _ _ _ _ => rfl⟩, ⟨_, rfl, rfl⟩, ⟨_, rfl, rfl, rfl⟩, .inl ⟨_, _, rfl, rfl, fun _ _ _ _ => rfl⟩, ⟨_, rfl, rfl⟩, ⟨_, rfl, rfl⟩, trivial⟩, m2⟩
 ·have h := of_decide_eq_false h
  have hX := hX (hend h hi)
  conv => whnf
  refine swp_seq0 E0_ok mixed (by kernel_rfl) ?_
  conv => whnf
  refine swp_of E0_ok mixed (by kernel_rfl) ?_
  conv => whnf
  refine ⟨fun _ _ _ _ => rfl, ?_⟩
  conv => whnf
  exact ⟨rfl, hX⟩
end Dv
end Go.Proofs.YtmbejakmeijcbaaGreat
/- slices.Clone in its caller's blocks; a region with a call of that kind; cyclotomic.over. -/
namespace Go.Proofs.YtmbejakmeijcbaaGreat
open Go.RowKit
theorem swp_go {E : Env} (hE : EnvOK E) {N id : Nat} {ops : Array Oper} {pre post : List Oper} {o : Oper} (hl : ops.toList = pre ++ o :: post) (hg : o.guard = none) (hdst : (ops.toList.all (dstB N)) = true) {σ : St} {R : Exit → St → Prop}
  (h : aops E ops pre σ fun τ => ∃ τ', OpGo E o τ τ' ∧ aops E ops post τ' (R .normal)) : Swp E N (.region id ops false) σ R := by
 refine ⟨fun C a w h1 h2 h3 hr => ?_⟩
 have hdo : ∀ o' ∈ ops.toList, dstOK C.N o'.dst := by
  intro o' ho d hd'
  have := List.all_eq_true.1 hdst o' ho
  unfold dstB at this
  rw [hd'] at this
  rw [h3]
  simpa using this
 refine wp_region_list ?_
 rw [hl] at hdo ⊢
 refine aops_app hE h1 (fun τ a w hk hrel => ?_) pre σ a w (fun o' ho => hdo o' (by simp [ho])) h hr
 obtain ⟨τ', hgo, hrest⟩ := hk
 unfold wpList
 rw [if_pos (by simp [Region.wanted, hg])]
 refine .inl (hgo h1 (hdo o (by simp)) hrel fun a' w' hrel' => ?_)
 exact aops_sound hE h1 (fun σ a w hk hrel => ⟨σ, hrel, hk⟩) post _ a' w' (fun o' ho => hdo o' (by simp [ho])) hrest hrel'
namespace Dv
theorem app00 {f : Nat → Nat → Cell} {a : Nat → Int} {x y : Nat} : appF 0 f (fun i _ => .int .i64 (a i)) x y = .int .i64 (a x) := by
 unfold appF
 rw [if_neg (by omega), Nat.sub_zero]
set_option maxHeartbeats 4000000 in
theorem clone_s {n : Nat} {a : Nat → Int} (h0 : 0 < n) (hn : n ≤ 1048576) : FnS Tryz.prog false 100 [] [.c (iv n a)] (.c (.gs 0 0)) [gb (gI n a)] := by
 refine fns_okS (E := E0) E0_ok Tryz.func100 rfl (by kernel_rfl) rfl ?_
 refine swp_of E0_ok mixed (by kernel_rfl) ?_
 conv => whnf
 refine ⟨h0, ?_⟩
 conv => whnf
 refine ⟨by show 0 + n ≤ 16777216; omega, fun x y hx hy => ?_, ?_⟩
 ·exact ⟨rfl, fun h => by cases h⟩
 conv => whnf
 show Weak 0 ⟨_, _⟩ (gst [(0, V.c (.gs 0 0))] [gI n a])
 exact Weak.gen [some 0] rfl ⟨⟨_, rfl, rfl, rfl, Nat.zero_add n, rfl, fun x y hx hy => regE (app00 (f := fun _ _ => Cell.any) (y := y)) rfl⟩, trivial⟩ ⟨⟨_, rfl, rfl, rfl⟩, trivial⟩
def e6 : Nat → Int
 | 0 => -1
 | i + 1 => i
theorem e6_eq (k : Nat) : (k : Int) - 1 = e6 k := by
 cases k with
 | zero => rfl
 | succ i => show ((i + 1 : Nat) : Int) - 1 = (i : Int); omega
def oF (d t : Nat) (q : Nat → Int) (k j : Nat) : Int := if k ≤ j ∧ j < t then tp d q t j + q j else tp d q t j
def oQ (q : Nat → Int) (k j : Nat) : Int := if k ≤ j then q j else 0
theorem oF_at {d t i : Nat} {q : Nat → Int} (h1 : 1 ≤ d) (hi : i < t) : oF d t q (i + 1) (i + d) = q i := by
 unfold oF tp
 rw [Nat.add_sub_cancel]
 by_cases c : i + d < t
 ·rw [if_pos ⟨by omega, c⟩, if_pos ⟨by omega, hi⟩, if_pos c]; omega
 ·rw [if_neg (by omega), if_pos ⟨by omega, hi⟩, if_neg c]; omega
theorem oF_next {d t i : Nat} {q : Nat → Int} (hi : i < t) (j : Nat) : up (oF d t q (i + 1)) i (oF d t q (i + 1) i + oQ q i i) j = oF d t q i j := by
 unfold up oF oQ
 by_cases e : j = i
 ·rw [if_pos e, e, if_neg (by omega), if_pos (Nat.le_refl i), if_pos ⟨Nat.le_refl i, hi⟩]
 ·rw [if_neg e]
  by_cases c : i ≤ j ∧ j < t
  ·rw [if_pos c, if_pos (by omega)]
  ·rw [if_neg c, if_neg (by omega)]
theorem oQ_next {i : Nat} {q : Nat → Int} (j : Nat) : up (oQ q (i + 1)) i (q i) j = oQ q i j := by
 unfold up oQ
 by_cases e : j = i
 ·rw [if_pos e, e, if_pos (Nat.le_refl i)]
 ·rw [if_neg e]
  by_cases c : i ≤ j
  ·rw [if_pos c, if_pos (by omega)]
  ·rw [if_neg c, if_neg (by omega)]
set_option maxHeartbeats 4000000 in
set_option maxRecDepth 100000 in
theorem over_ok {t d : Nat} {q : Nat → Int} (ht : t ≤ 4096) (h1 : 1 ≤ d) (hd : d ≤ 4096) (ha : ∀ i, -1073741824 ≤ q i ∧ q i ≤ 1073741824) : FnOK Tryz.prog false 66 [.c (iv (t + d) (tp d q t)), .c (.int .i64 d)] (.c (iv t q)) := by
 have hC := clone_s (n := t + d) (a := tp d q t) (by omega) (by omega)
 have s0 : ∀ x, tp d q t x = oF d t q t x := fun x => by unfold oF; rw [if_neg (by omega)]
 have s1 : ∀ x, x < t → Cell.int .i64 0 = .int .i64 (oQ q t x) := fun x hx => by unfold oQ; rw [if_neg (by omega)]
 have s2 : ∀ i, i < t → oF d t q (i + 1) (i + d) = q i := fun i hi => oF_at h1 hi
 have s3 : ∀ i, i < t → ∀ j, up (oF d t q (i + 1)) i (oF d t q (i + 1) i + oQ q i i) j = oF d t q i j := fun i hi j => oF_next hi j
 have s4 : ∀ i j, up (oQ q (i + 1)) i (q i) j = oQ q i j := fun i j => oQ_next j
 have s5 : ∀ i, i < t → -9223372036854775808 ≤ oF d t q (i + 1) i + oQ q i i ∧ oF d t q (i + 1) i + oQ q i i < 9223372036854775808 := fun i hi => by
  have h1 := tp_range (d := d) ha t i
  have h2 := ha i
  unfold oF oQ
  rw [if_neg (by omega), if_pos (Nat.le_refl i)]
  omega
 have s6 : ∀ x, Cell.int .i64 (oQ q 0 x) = .int .i64 (q x) := fun x => by unfold oQ; rw [if_pos (Nat.zero_le x)]
 have hX : Sub (.c (iv t (oQ q 0))) (.c (iv t q)) := by
  have e : oQ q 0 = q := funext fun x => by unfold oQ; rw [if_pos (Nat.zero_le x)]
  rw [e]; exact Sub.refl _
 have nt : (((t + d : Nat) : Int) - (d : Int)).toNat = t := by omega
 obtain ⟨T, hT⟩ : ∃ T, T = tp d q t := ⟨_, rfl⟩
 rw [← hT] at hC s0 ⊢
 obtain ⟨Ff, hF⟩ : ∃ Ff, Ff = oF d t q := ⟨_, rfl⟩
 rw [← hF] at s0 s2 s3 s5
 obtain ⟨Q, hQ⟩ : ∃ Q, Q = oQ q := ⟨_, rfl⟩
 rw [← hQ] at s1 s3 s4 s5 s6 hX
 clear hT hF hQ
 refine fn_okS (E := E0) E0_ok Tryz.func66 rfl (by kernel_rfl) ?_
 refine swp_seq0 E0_ok mixed (by kernel_rfl) ?_
 conv => whnf
 refine swp_seqS (swp_go E0_ok (pre := [_]) (post := [_]) rfl rfl (by kernel_rfl) ?_)
 conv => whnf
 refine ⟨_, OpGo.call (f := 100) (cs := []) rfl rfl hC, ?_⟩
 conv => whnf
 refine Swp.weak (σ2 := gst [(0, .c (.gs 0 0)), (1, .c (.int .i64 d))] [gI (t + d) T]) (Weak.gen [some 0] rfl ⟨⟨_, rfl, rfl, rfl, rfl, rfl, fun x y hx hy => regE rfl rfl⟩, trivial⟩ ⟨⟨_, rfl, rfl, rfl⟩, ⟨_, rfl, rfl⟩, trivial⟩) ?_
 refine swp_seq E0_ok mixed (by kernel_rfl) ?_
 conv => whnf
 refine ⟨⟨by show (-9223372036854775808 : Int) ≤ ((t + d : Nat) : Int) - d; omega, by show ((t + d : Nat) : Int) - d < (9223372036854775808 : Int); omega⟩, ?_⟩
 conv => whnf
 refine ⟨by show (0 : Int) ≤ ((t + d : Nat) : Int) - d; omega, by show ((t + d : Nat) : Int) - d ≤ ((t + d : Nat) : Int) - d; omega, by show ((t + d : Nat) : Int) - d ≤ 281474976710656; omega, by show (8 : Int) * (((t + d : Nat) : Int) - d) ≤ 281474976710656; omega, ?_⟩
 conv => whnf
 refine ⟨gst [(0, .c (.gs 0 0)), (1, .c (.int .i64 d)), (5, .c (.gs 1 0))] [gI (t + d) T, gI t (Q t)], Weak.gen [some 0, some 1] rfl ⟨⟨_, rfl, rfl, rfl, rfl, rfl, fun x y hx hy => regE rfl rfl⟩, ⟨_, rfl, rfl, rfl, nt, rfl, fun x y hx hy => regE ((zero1 (i := x) hy).trans (s1 x hx)) rfl⟩, trivial⟩ ⟨⟨_, rfl, rfl, rfl⟩, ⟨_, rfl, rfl⟩, ⟨_, rfl, rfl, rfl⟩, trivial⟩, ?_⟩
 refine swp_seqS ?_
 refine swp_seq0 E0_ok mixed (by kernel_rfl) ?_
 conv => whnf
 refine ⟨⟨by show (-9223372036854775808 : Int) ≤ (t : Int) - 1; omega, by show (t : Int) - 1 < (9223372036854775808 : Int); omega⟩, ?_⟩
 conv => whnf
 refine swp_block ?_
 refine swp_loop (fun k : Nat => gst [(0, .c (.gs 0 0)), (1, .c (.int .i64 d)), (5, .c (.gs 1 0)), (6, .c (.int .i64 (e6 k)))] [gI (t + d) (Ff k), gI t (Q k)]) (fun k => k) (fun k => k ≤ t) t (Weak.gen [some 0, some 1] rfl ⟨⟨_, rfl, rfl, rfl, rfl, rfl, fun x y hx hy => regE (congrArg (Cell.int .i64) (s0 x)) rfl⟩, ⟨_, rfl, rfl, rfl, rfl, rfl, fun x y hx hy => regE rfl rfl⟩, trivial⟩ ⟨⟨_, rfl, rfl, rfl⟩, ⟨_, rfl, rfl⟩, ⟨_, rfl, rfl, rfl⟩, ⟨_, rfl, e6_eq t⟩, trivial⟩) (Nat.le_refl t) fun k hk => ?_
 match k, hk with
 | 0, _ =>
  refine swp_seqS ?_
  refine swp_seq0 E0_ok mixed (by kernel_rfl) ?_
  conv => whnf
  refine swp_of E0_ok mixed (by kernel_rfl) ?_
  conv => whnf
  refine swp_of E0_ok mixed (by kernel_rfl) ?_
  conv => whnf
  refine ⟨fun _ _ _ _ => rfl, ?_⟩
  conv => whnf
  exact ⟨rfl, hX⟩
 | i + 1, hk =>
  have hi : i < t := hk
  have s4 : ∀ j, up (Q (i + 1)) i (Ff (i + 1) (i + d)) j = Q i j := fun j => by rw [s2 i hi]; exact s4 i j
  have s3 := s3 i hi
  have s5 := s5 i hi
  have m1 : i < i + 1 := by omega
  have m2 : i ≤ t := by omega
  refine swp_seqS ?_
  refine swp_seq0 E0_ok mixed (by kernel_rfl) ?_
  conv => whnf
  refine swp_of E0_ok mixed (by kernel_rfl) ?_
  conv => whnf
  refine swp_seqS (swp_block ?_)
  refine swp_seq E0_ok mixed (by kernel_rfl) ?_
  conv => whnf
  refine ⟨⟨by show (-9223372036854775808 : Int) ≤ (i : Int) + d; omega, by show (i : Int) + d < (9223372036854775808 : Int); omega⟩, ?_⟩
  conv => whnf
  refine ⟨by show (0 : Int) ≤ (i : Int) + d; omega, by show (i : Int) + d < ((t + d : Nat) : Int); omega, ?_⟩
  conv => whnf
  refine ⟨by show (0 : Int) ≤ (i : Int); omega, by show (i : Int) < (t : Int); omega, ?_⟩
  conv => whnf
  refine ⟨gst [(0, .c (.gs 0 0)), (1, .c (.int .i64 d)), (5, .c (.gs 1 0)), (6, .c (.int .i64 i))] [gI (t + d) (Ff (i + 1)), gI t (Q i)], Weak.gen [some 0, some 1] rfl ⟨⟨_, rfl, rfl, rfl, rfl, rfl, fun x y hx hy => regE rfl rfl⟩, ⟨_, rfl, rfl, rfl, rfl, rfl, fun x y hx hy => regE (up_ok (fun _ _ => rfl) s4 hy) rfl⟩, trivial⟩ ⟨⟨_, rfl, rfl, rfl⟩, ⟨_, rfl, rfl⟩, ⟨_, rfl, rfl, rfl⟩, ⟨_, rfl, rfl⟩, trivial⟩, ?_⟩
  refine swp_of E0_ok mixed (by kernel_rfl) ?_
  conv => whnf
  refine ⟨by omega, by show (i : Int) < ((t + d : Nat) : Int); omega, ?_⟩
  conv => whnf
  refine ⟨by omega, by show (i : Int) < (t : Int); omega, ?_⟩
  conv => whnf
  refine ⟨s5, ?_⟩
  conv => whnf
  refine ⟨by omega, by show (i : Int) < ((t + d : Nat) : Int); omega, ?_⟩
  conv => whnf
  refine swp_of E0_ok mixed (by kernel_rfl) ?_
  conv => whnf
  refine ⟨⟨by omega, by omega⟩, ?_⟩
  conv => whnf
  exact ⟨i, m1, Weak.gen [some 0, some 1] rfl ⟨⟨_, rfl, rfl, rfl, rfl, rfl, fun x y hx hy => regE (up_ok (fun _ _ => rfl) s3 hy) rfl⟩, ⟨_, rfl, rfl, rfl, rfl, rfl, fun x y hx hy => regE rfl rfl⟩, trivial⟩ ⟨⟨_, rfl, rfl, rfl⟩, ⟨_, rfl, rfl⟩, ⟨_, rfl, rfl, rfl⟩, ⟨_, rfl, e6_eq i⟩, trivial⟩, m2⟩
end Dv
end Go.Proofs.YtmbejakmeijcbaaGreat
/- times and over as a table for the evaluator. -/
namespace Go.Proofs.YtmbejakmeijcbaaGreat
open Go.RowKit
theorem FnOK.same {P : Program} {r : Bool} {f : FuncId} {x y d X : V} (h : FnOK P r f [y, d] X) (hs : sameV x y = true) : FnOK P r f [x, d] X := by
 refine ⟨h.1, fun D w vs h1 h2 hargs => h.2 D w vs h1 h2 ?_⟩
 match vs, hargs with
 | [u, v], hargs => exact ⟨sameV_ok x y hs D w u hargs.1, hargs.2⟩
 | [], hargs => exact hargs.elim
 | [_], hargs => exact hargs.2.elim
 | _ :: _ :: _ :: _, hargs => exact hargs.2.2.elim
def smallI (x : Int) : Bool := decide (-1073741824 ≤ x) && decide (x ≤ 1073741824)
def smallL (l : List Int) : Bool := l.all smallI
theorem smallL_ok {l : List Int} (h : smallL l = true) (i : Nat) : -1073741824 ≤ l.getD i 0 ∧ l.getD i 0 ≤ 1073741824 := by
 rw [List.getD_eq_getElem?_getD]
 cases hx : l[i]? with
 | none => exact ⟨by decide, by decide⟩
 | some x =>
  have := List.all_eq_true.1 h x (List.mem_of_getElem? hx)
  unfold smallI at this
  simp only [Bool.and_eq_true, decide_eq_true_eq] at this
  exact this
def ovL (d : Nat) (f : Nat → Int) : Nat → List Int → List Int
 | 0, acc => acc
 | i + 1, acc => ovL d f i ((f (i + d) + acc.getD (d - 1) 0) :: acc)
def tmX (n d : Nat) (g : Nat → Nat → Cell) : Option V :=
 let l := (List.range n).map fun i => valC (g i 0)
 match decide (n ≤ 4096) && decide (1 ≤ d) && decide (d ≤ 4096) && smallL l && sameV (.c (.row 1 n g)) (.c (Dv.iv n fun i => l.getD i 0)) with
 | true => some (.c (Dv.iv (n + d) (Dv.tp d (fun i => l.getD i 0) n)))
 | false => none
def ovX (n d : Nat) (g : Nat → Nat → Cell) : Option V :=
 let l := ovL d (fun i => valC (g i 0)) (n - d) []
 match decide (n - d ≤ 4096) && decide (1 ≤ d) && decide (d ≤ 4096) && smallL l && sameV (.c (.row 1 n g)) (.c (Dv.iv (n - d + d) (Dv.tp d (fun i => l.getD i 0) (n - d)))) with
 | true => some (.c (Dv.iv (n - d) fun i => l.getD i 0))
 | false => none
theorem tmX_ok {n d : Nat} {g : Nat → Nat → Cell} {X : V} (h : tmX n d g = some X) : FnOK Tryz.prog false 65 [.c (.row 1 n g), .c (.int .i64 d)] X := by
 unfold tmX at h
 simp only at h
 split at h
 ·rename_i hb
  cases h
  simp only [Bool.and_eq_true, decide_eq_true_eq] at hb
  obtain ⟨⟨⟨⟨h1, h2⟩, h3⟩, h4⟩, h5⟩ := hb
  exact (Dv.times_ok h1 h2 h3 (smallL_ok h4)).same h5
 ·cases h
theorem ovX_ok {n d : Nat} {g : Nat → Nat → Cell} {X : V} (h : ovX n d g = some X) : FnOK Tryz.prog false 66 [.c (.row 1 n g), .c (.int .i64 d)] X := by
 unfold ovX at h
 simp only at h
 split at h
 ·rename_i hb
  cases h
  simp only [Bool.and_eq_true, decide_eq_true_eq] at hb
  obtain ⟨⟨⟨⟨h1, h2⟩, h3⟩, h4⟩, h5⟩ := hb
  exact (Dv.over_ok h1 h2 h3 (smallL_ok h4)).same h5
 ·cases h
def orcP (f : FuncId) (l : List V) : Option V := match orcC f l with
 | some X => some X
 | none => match l with
  | [.c (.row 1 n g), .c (.int .i64 (.ofNat d))] => match f == 65 with
   | true => tmX n d g
   | false => match f == 66 with
    | true => ovX n d g
    | false => none
  | _ => none
theorem orcP_ok (f : FuncId) (l : List V) (X : V) (h : orcP f l = some X) : FnOK Tryz.prog false f l X := by
 unfold orcP at h
 split at h
 ·rename_i Y hY
  cases h
  exact orcC_ok f l _ hY
 ·split at h
  ·rename_i n g d
   split at h
   ·rename_i hf
    rw [beq_iff_eq.1 hf]
    exact tmX_ok h
   ·split at h
    ·rename_i hf
     rw [beq_iff_eq.1 hf]
     exact ovX_ok h
    ·cases h
  ·cases h
def dvIn : List FuncId := [95, 96, 97, 139, 172, 98, 141, 99, 106, 183, 160]
def dvI (f : FuncId) : Bool := dvIn.contains f
abbrev lf (l : List Int) (i : Nat) : Int := l.getD i 0
end Go.Proofs.YtmbejakmeijcbaaGreat
/- The program's products and quotients by x^d - 1: wide ranges; quotients of any list. -/
namespace Go.Proofs.YtmbejakmeijcbaaGreat
open Go.RowKit
namespace Dv
theorem tp_rangeW {d : Nat} {a : Nat → Int} (ha : ∀ i, -2305843009213693952 ≤ a i ∧ a i ≤ 2305843009213693952) (i j : Nat) : -4611686018427387904 ≤ tp d a i j ∧ tp d a i j ≤ 4611686018427387904 := by
 unfold tp
 have h1 := ha (j - d)
 have h2 := ha j
 split <;> split <;> omega
set_option maxHeartbeats 4000000 in
theorem times_w {n d : Nat} {a : Nat → Int} (hn : n ≤ 4096) (h1 : 1 ≤ d) (hd : d ≤ 4096) (ha : ∀ i, -2305843009213693952 ≤ a i ∧ a i ≤ 2305843009213693952) : FnOK Tryz.prog false 65 [.c (iv n a), .c (.int .i64 d)] (.c (iv (n + d) (tp d a n))) := by
 have hT := tp_rangeW (d := d) ha
 have t0 : ∀ j, Cell.int .i64 0 = .int .i64 (tp d a 0 j) := fun j => by unfold tp; rw [if_neg (by omega), if_neg (by omega)]; rfl
 have st : ∀ i j, up (up (tp d a i) i (tp d a i i - a i)) (i + d) (up (tp d a i) i (tp d a i i - a i) (i + d) + a i) j = tp d a (i + 1) j := fun i j => by
  have h := tp_step (d := d) (a := a) (i := i) (j := j) h1 rfl rfl (f := fun i' _ => .int .i64 (tp d a i i')) (fun _ _ => rfl) Nat.zero_lt_one
  rw [updI Nat.zero_lt_one, updI Nat.zero_lt_one] at h
  unfold up
  have e : (if i + d = i then tp d a i i - a i else tp d a i (i + d)) = tp d a i (i + d) := if_neg (by omega)
  rw [e]
  split at h
  ·rename_i c; rw [if_pos c]; exact (Cell.int.inj h).2
  ·rename_i c
   rw [if_neg c]
   split at h
   ·rename_i c; rw [if_pos c]; exact (Cell.int.inj h).2
   ·rename_i c; rw [if_neg c]; exact (Cell.int.inj h).2
 have hU : ∀ i, up (tp d a i) i (tp d a i i - a i) (i + d) = tp d a i (i + d) := fun i => if_neg (by omega)
 have hend : ∀ i : Nat, ¬ (i : Int) < n → i ≤ n → i = n := fun i h1 h2 => by omega
 obtain ⟨T, hTe⟩ : ∃ T, T = tp d a := ⟨_, rfl⟩
 rw [← hTe] at hT t0 st hU ⊢
 obtain ⟨U, hUe⟩ : ∃ U : Nat → Nat → Int, U = fun i => up (T i) i (T i i - a i) := ⟨_, rfl⟩
 have uo : ∀ i (f : Nat → Nat → Cell), (∀ x y, f x y = .int .i64 (T i x)) → ∀ x y, y < 1 → updF f i 0 [.int .i64 (T i i - a i)] x y = .int .i64 (U i x) := fun i f hf x y hy => up_ok hf (fun j => by rw [hUe]) hy
 have uo2 : ∀ i (f : Nat → Nat → Cell), (∀ x y, f x y = .int .i64 (U i x)) → ∀ x y, y < 1 → updF f (i + d) 0 [.int .i64 (U i (i + d) + a i)] x y = .int .i64 (T (i + 1) x) := fun i f hf x y hy => up_ok hf (fun j => by rw [hUe]; exact st i j) hy
 have hU : ∀ i, U i (i + d) = T i (i + d) := fun i => by rw [hUe]; exact hU i
 have hX : ∀ i, i = n → Sub (.c (iv (n + d) (T i))) (.c (iv (n + d) (T n))) := fun i e => by rw [e]; exact Sub.refl _
 clear hTe hUe st
 refine fn_okS (E := E0) E0_ok Tryz.func65 rfl (by kernel_rfl) ?_
 refine swp_seq0 E0_ok mixed (by kernel_rfl) ?_
 conv => whnf
 refine swp_seq0 E0_ok mixed (by kernel_rfl) ?_
 conv => whnf
 refine ⟨⟨by omega, by omega⟩, ?_⟩
 conv => whnf
 refine ⟨by omega, by omega, by omega, by show (8 : Int) * ((n : Int) + d) ≤ 281474976710656; omega, ?_⟩
 conv => whnf
 refine swp_seqS ?_
 refine swp_seq0 E0_ok mixed (by kernel_rfl) ?_
 conv => whnf
 refine swp_block ?_
 refine swp_loop (fun i : Nat => gst [(0, .c (iv n a)), (1, .c (.int .i64 d)), (5, .c (.gs 0 0)), (13, .c (iv n a)), (14, .c (.int .i64 n)), (15, .c (.int .i64 i))] [gI (n + d) (T i)]) (fun i => n - i) (fun i => i ≤ n) 0 (Weak.gen [some 0] rfl ⟨⟨_, rfl, rfl, rfl, rfl, rfl, fun x y hx hy => regE ((zero1 (i := x) hy).trans (t0 x)) rfl⟩, trivial⟩ ⟨.inl ⟨_, _, rfl, rfl, fun _ _ _ _ => rfl⟩, ⟨_, rfl, rfl⟩, ⟨_, rfl, rfl, rfl⟩, .inl ⟨_, _, rfl, rfl, fun _ _ _ _ => rfl⟩, ⟨_, rfl, rfl⟩, ⟨_, rfl, rfl⟩, trivial⟩) (Nat.zero_le _) fun i hi => ?_
 have uo := uo i
 have uo2 := uo2 i
 have hU := hU i
 have hT1 := hT i i
 have hT2 := hT i (i + d)
 have ha := ha i
 have hend := hend i
 have hX := hX i
 refine swp_seq0 E0_ok mixed (by kernel_rfl) ?_
 conv => whnf
 refine swp_seq0 E0_ok mixed (by kernel_rfl) ?_
 conv => whnf
 refine bcase (fun (h : decide ((i : Int) < n) = true) => ?_) fun (h : decide ((i : Int) < n) = false) => ?_
 ·have h := of_decide_eq_true h
  have m1 : n - (i + 1) < n - i := by omega
  have m2 : i + 1 ≤ n := by omega
  have hr : -9223372036854775808 ≤ U i (i + d) + a i ∧ U i (i + d) + a i < 9223372036854775808 := by omega
  conv => whnf
  refine swp_seqS (swp_block ?_)
  refine swp_seq0 E0_ok mixed (by kernel_rfl) ?_
  conv => whnf
  refine ⟨by omega, by omega, ?_⟩
  conv => whnf
  refine swp_seq E0_ok mixed (by kernel_rfl) ?_
  conv => whnf
  refine ⟨by omega, by show (i : Int) < ((n + d : Nat) : Int); omega, ?_⟩
  conv => whnf
  refine ⟨⟨by show (-9223372036854775808 : Int) ≤ T i i - a i; omega, by show T i i - a i < (9223372036854775808 : Int); omega⟩, ?_⟩
  conv => whnf
  refine ⟨by omega, by show (i : Int) < ((n + d : Nat) : Int); omega, ?_⟩
  conv => whnf
  refine ⟨gst [(0, .c (iv n a)), (1, .c (.int .i64 d)), (5, .c (.gs 0 0)), (6, .c (.int .i64 i)), (7, .c (.int .i64 (a i))), (13, .c (iv n a)), (14, .c (.int .i64 n)), (15, .c (.int .i64 i))] [gI (n + d) (U i)], Weak.gen [some 0] rfl ⟨⟨_, rfl, rfl, rfl, rfl, rfl, fun x y hx hy => regE (uo _ (fun _ _ => rfl) x y hy) rfl⟩, trivial⟩ ⟨.inl ⟨_, _, rfl, rfl, fun _ _ _ _ => rfl⟩, ⟨_, rfl, rfl⟩, ⟨_, rfl, rfl, rfl⟩, ⟨_, rfl, rfl⟩, ⟨_, rfl, rfl⟩, .inl ⟨_, _, rfl, rfl, fun _ _ _ _ => rfl⟩, ⟨_, rfl, rfl⟩, ⟨_, rfl, rfl⟩, trivial⟩, ?_⟩
  refine swp_of E0_ok mixed (by kernel_rfl) ?_
  conv => whnf
  refine ⟨⟨by omega, by omega⟩, ?_⟩
  conv => whnf
  refine ⟨by omega, by show (i : Int) + d < ((n + d : Nat) : Int); omega, ?_⟩
  conv => whnf
  refine ⟨hr, ?_⟩
  conv => whnf
  refine ⟨by omega, by show (i : Int) + d < ((n + d : Nat) : Int); omega, ?_⟩
  conv => whnf
  refine swp_of E0_ok mixed (by kernel_rfl) ?_
  conv => whnf
  refine ⟨⟨by omega, by omega⟩, ?_⟩
  conv => whnf
  exact ⟨i + 1, m1, Weak.gen [some 0] rfl ⟨⟨_, rfl, rfl, rfl, rfl, rfl, fun x y hx hy => regE (uo2 _ (fun _ _ => rfl) x y hy) rfl⟩, trivial⟩ ⟨.inl ⟨_, _, rfl, rfl, fun _ _ _ _ => rfl⟩, ⟨_, rfl, rfl⟩, ⟨_, rfl, rfl, rfl⟩, .inl ⟨_, _, rfl, rfl, fun _ _ _ _ => rfl⟩, ⟨_, rfl, rfl⟩, ⟨_, rfl, rfl⟩, trivial⟩, m2⟩
 ·have h := of_decide_eq_false h
  have hX := hX (hend h hi)
  conv => whnf
  refine swp_seq0 E0_ok mixed (by kernel_rfl) ?_
  conv => whnf
  refine swp_of E0_ok mixed (by kernel_rfl) ?_
  conv => whnf
  refine ⟨fun _ _ _ _ => rfl, ?_⟩
  conv => whnf
  exact ⟨rfl, hX⟩
def oG (t : Nat) (a q : Nat → Int) (k j : Nat) : Int := if k ≤ j ∧ j < t then a j + q j else a j
theorem oG_at {d t i : Nat} {a q : Nat → Int} (h1 : 1 ≤ d) (hi : i < t) (hq : ∀ j, j < t → q j = a (j + d) + if j + d < t then q (j + d) else 0) : oG t a q (i + 1) (i + d) = q i := by
 unfold oG
 rw [hq i hi]
 by_cases c : i + d < t
 ·rw [if_pos ⟨by omega, c⟩, if_pos c]
 ·rw [if_neg (by omega), if_neg c, Int.add_zero]
theorem oG_next {t i : Nat} {a q : Nat → Int} (hi : i < t) (j : Nat) : up (oG t a q (i + 1)) i (oG t a q (i + 1) i + oQ q i i) j = oG t a q i j := by
 unfold up oG oQ
 by_cases e : j = i
 ·rw [if_pos e, e, if_neg (by omega), if_pos (Nat.le_refl i), if_pos ⟨Nat.le_refl i, hi⟩]
 ·rw [if_neg e]
  by_cases c : i ≤ j ∧ j < t
  ·rw [if_pos c, if_pos (by omega)]
  ·rw [if_neg c, if_neg (by omega)]
set_option maxHeartbeats 4000000 in
set_option maxRecDepth 100000 in
theorem over_w {t d : Nat} {a q : Nat → Int} (ht : t ≤ 4096) (h1 : 1 ≤ d) (hd : d ≤ 4096) (hq : ∀ j, j < t → q j = a (j + d) + if j + d < t then q (j + d) else 0) (ha : ∀ i, -2305843009213693952 ≤ a i ∧ a i ≤ 2305843009213693952) (hb : ∀ i, -2305843009213693952 ≤ q i ∧ q i ≤ 2305843009213693952) : FnOK Tryz.prog false 66 [.c (iv (t + d) a), .c (.int .i64 d)] (.c (iv t q)) := by
 have hC := clone_s (n := t + d) (a := a) (by omega) (by omega)
 have s0 : ∀ x, a x = oG t a q t x := fun x => by unfold oG; rw [if_neg (by omega)]
 have s1 : ∀ x, x < t → Cell.int .i64 0 = .int .i64 (oQ q t x) := fun x hx => by unfold oQ; rw [if_neg (by omega)]
 have s2 : ∀ i, i < t → oG t a q (i + 1) (i + d) = q i := fun i hi => oG_at h1 hi hq
 have s3 : ∀ i, i < t → ∀ j, up (oG t a q (i + 1)) i (oG t a q (i + 1) i + oQ q i i) j = oG t a q i j := fun i hi j => oG_next hi j
 have s4 : ∀ i j, up (oQ q (i + 1)) i (q i) j = oQ q i j := fun i j => oQ_next j
 have s5 : ∀ i, i < t → -9223372036854775808 ≤ oG t a q (i + 1) i + oQ q i i ∧ oG t a q (i + 1) i + oQ q i i < 9223372036854775808 := fun i hi => by
  have h1 := ha i
  have h2 := hb i
  unfold oG oQ
  rw [if_neg (by omega), if_pos (Nat.le_refl i)]
  omega
 have s6 : ∀ x, Cell.int .i64 (oQ q 0 x) = .int .i64 (q x) := fun x => by unfold oQ; rw [if_pos (Nat.zero_le x)]
 have hX : Sub (.c (iv t (oQ q 0))) (.c (iv t q)) := by
  have e : oQ q 0 = q := funext fun x => by unfold oQ; rw [if_pos (Nat.zero_le x)]
  rw [e]; exact Sub.refl _
 have nt : (((t + d : Nat) : Int) - (d : Int)).toNat = t := by omega
 obtain ⟨Ff, hF⟩ : ∃ Ff, Ff = oG t a q := ⟨_, rfl⟩
 rw [← hF] at s0 s2 s3 s5
 obtain ⟨Q, hQ⟩ : ∃ Q, Q = oQ q := ⟨_, rfl⟩
 rw [← hQ] at s1 s3 s4 s5 s6 hX
 clear hF hQ
 refine fn_okS (E := E0) E0_ok Tryz.func66 rfl (by kernel_rfl) ?_
 refine swp_seq0 E0_ok mixed (by kernel_rfl) ?_
 conv => whnf
 refine swp_seqS (swp_go E0_ok (pre := [_]) (post := [_]) rfl rfl (by kernel_rfl) ?_)
 conv => whnf
 refine ⟨_, OpGo.call (f := 100) (cs := []) rfl rfl hC, ?_⟩
 conv => whnf
 refine Swp.weak (σ2 := gst [(0, .c (.gs 0 0)), (1, .c (.int .i64 d))] [gI (t + d) a]) (Weak.gen [some 0] rfl ⟨⟨_, rfl, rfl, rfl, rfl, rfl, fun x y hx hy => regE rfl rfl⟩, trivial⟩ ⟨⟨_, rfl, rfl, rfl⟩, ⟨_, rfl, rfl⟩, trivial⟩) ?_
 refine swp_seq E0_ok mixed (by kernel_rfl) ?_
 conv => whnf
 refine ⟨⟨by show (-9223372036854775808 : Int) ≤ ((t + d : Nat) : Int) - d; omega, by show ((t + d : Nat) : Int) - d < (9223372036854775808 : Int); omega⟩, ?_⟩
 conv => whnf
 refine ⟨by show (0 : Int) ≤ ((t + d : Nat) : Int) - d; omega, by show ((t + d : Nat) : Int) - d ≤ ((t + d : Nat) : Int) - d; omega, by show ((t + d : Nat) : Int) - d ≤ 281474976710656; omega, by show (8 : Int) * (((t + d : Nat) : Int) - d) ≤ 281474976710656; omega, ?_⟩
 conv => whnf
 refine ⟨gst [(0, .c (.gs 0 0)), (1, .c (.int .i64 d)), (5, .c (.gs 1 0))] [gI (t + d) a, gI t (Q t)], Weak.gen [some 0, some 1] rfl ⟨⟨_, rfl, rfl, rfl, rfl, rfl, fun x y hx hy => regE rfl rfl⟩, ⟨_, rfl, rfl, rfl, nt, rfl, fun x y hx hy => regE ((zero1 (i := x) hy).trans (s1 x hx)) rfl⟩, trivial⟩ ⟨⟨_, rfl, rfl, rfl⟩, ⟨_, rfl, rfl⟩, ⟨_, rfl, rfl, rfl⟩, trivial⟩, ?_⟩
 refine swp_seqS ?_
 refine swp_seq0 E0_ok mixed (by kernel_rfl) ?_
 conv => whnf
 refine ⟨⟨by show (-9223372036854775808 : Int) ≤ (t : Int) - 1; omega, by show (t : Int) - 1 < (9223372036854775808 : Int); omega⟩, ?_⟩
 conv => whnf
 refine swp_block ?_
 refine swp_loop (fun k : Nat => gst [(0, .c (.gs 0 0)), (1, .c (.int .i64 d)), (5, .c (.gs 1 0)), (6, .c (.int .i64 (e6 k)))] [gI (t + d) (Ff k), gI t (Q k)]) (fun k => k) (fun k => k ≤ t) t (Weak.gen [some 0, some 1] rfl ⟨⟨_, rfl, rfl, rfl, rfl, rfl, fun x y hx hy => regE (congrArg (Cell.int .i64) (s0 x)) rfl⟩, ⟨_, rfl, rfl, rfl, rfl, rfl, fun x y hx hy => regE rfl rfl⟩, trivial⟩ ⟨⟨_, rfl, rfl, rfl⟩, ⟨_, rfl, rfl⟩, ⟨_, rfl, rfl, rfl⟩, ⟨_, rfl, e6_eq t⟩, trivial⟩) (Nat.le_refl t) fun k hk => ?_
 match k, hk with
 | 0, _ =>
  refine swp_seqS ?_
  refine swp_seq0 E0_ok mixed (by kernel_rfl) ?_
  conv => whnf
  refine swp_of E0_ok mixed (by kernel_rfl) ?_
  conv => whnf
  refine swp_of E0_ok mixed (by kernel_rfl) ?_
  conv => whnf
  refine ⟨fun _ _ _ _ => rfl, ?_⟩
  conv => whnf
  exact ⟨rfl, hX⟩
 | i + 1, hk =>
  have hi : i < t := hk
  have s4 : ∀ j, up (Q (i + 1)) i (Ff (i + 1) (i + d)) j = Q i j := fun j => by rw [s2 i hi]; exact s4 i j
  have s3 := s3 i hi
  have s5 := s5 i hi
  have m1 : i < i + 1 := by omega
  have m2 : i ≤ t := by omega
  refine swp_seqS ?_
  refine swp_seq0 E0_ok mixed (by kernel_rfl) ?_
  conv => whnf
  refine swp_of E0_ok mixed (by kernel_rfl) ?_
  conv => whnf
  refine swp_seqS (swp_block ?_)
  refine swp_seq E0_ok mixed (by kernel_rfl) ?_
  conv => whnf
  refine ⟨⟨by show (-9223372036854775808 : Int) ≤ (i : Int) + d; omega, by show (i : Int) + d < (9223372036854775808 : Int); omega⟩, ?_⟩
  conv => whnf
  refine ⟨by show (0 : Int) ≤ (i : Int) + d; omega, by show (i : Int) + d < ((t + d : Nat) : Int); omega, ?_⟩
  conv => whnf
  refine ⟨by show (0 : Int) ≤ (i : Int); omega, by show (i : Int) < (t : Int); omega, ?_⟩
  conv => whnf
  refine ⟨gst [(0, .c (.gs 0 0)), (1, .c (.int .i64 d)), (5, .c (.gs 1 0)), (6, .c (.int .i64 i))] [gI (t + d) (Ff (i + 1)), gI t (Q i)], Weak.gen [some 0, some 1] rfl ⟨⟨_, rfl, rfl, rfl, rfl, rfl, fun x y hx hy => regE rfl rfl⟩, ⟨_, rfl, rfl, rfl, rfl, rfl, fun x y hx hy => regE (up_ok (fun _ _ => rfl) s4 hy) rfl⟩, trivial⟩ ⟨⟨_, rfl, rfl, rfl⟩, ⟨_, rfl, rfl⟩, ⟨_, rfl, rfl, rfl⟩, ⟨_, rfl, rfl⟩, trivial⟩, ?_⟩
  refine swp_of E0_ok mixed (by kernel_rfl) ?_
  conv => whnf
  refine ⟨by omega, by show (i : Int) < ((t + d : Nat) : Int); omega, ?_⟩
  conv => whnf
  refine ⟨by omega, by show (i : Int) < (t : Int); omega, ?_⟩
  conv => whnf
  refine ⟨s5, ?_⟩
  conv => whnf
  refine ⟨by omega, by show (i : Int) < ((t + d : Nat) : Int); omega, ?_⟩
  conv => whnf
  refine swp_of E0_ok mixed (by kernel_rfl) ?_
  conv => whnf
  refine ⟨⟨by omega, by omega⟩, ?_⟩
  conv => whnf
  exact ⟨i, m1, Weak.gen [some 0, some 1] rfl ⟨⟨_, rfl, rfl, rfl, rfl, rfl, fun x y hx hy => regE (up_ok (fun _ _ => rfl) s3 hy) rfl⟩, ⟨_, rfl, rfl, rfl, rfl, rfl, fun x y hx hy => regE rfl rfl⟩, trivial⟩ ⟨⟨_, rfl, rfl, rfl⟩, ⟨_, rfl, rfl⟩, ⟨_, rfl, rfl, rfl⟩, ⟨_, rfl, e6_eq i⟩, trivial⟩, m2⟩
end Dv
end Go.Proofs.YtmbejakmeijcbaaGreat
/- Lists of integers and of fractions in the program; the form of a number field. -/
namespace Go.Proofs.YtmbejakmeijcbaaGreat
open Go.RowKit
def tb (p : Nat → Bool) : Nat → Nat
 | 0 => 0
 | n + 1 => if p n = true then tb p n else n + 1
theorem tb_tl {p : Nat → Bool} {v : Nat → Int} : ∀ {n : Nat}, (∀ i, i < n → (p i = true ↔ v i = 0)) → tb p n = tl v n
 | 0, _ => rfl
 | n + 1, h => by
  have h1 := h n (by omega)
  unfold tb tl
  rw [tb_tl fun i hi => h i (by omega)]
  by_cases c : v n = 0
  ·rw [if_pos (h1.2 c), if_pos c]
  ·rw [if_neg (fun e => c (h1.1 e)), if_neg c]
abbrev qlF (q : Nat → RawR) (i j : Nat) : Cell := (rr (q i)).getD j .any
abbrev ql (n : Nat) (q : Nat → RawR) : Cell := .row 4 n (qlF q)
theorem qlF_eq {c e : Nat → RawR} {i j k : Nat} (h : c i = e k) : qlF c i j = qlF e k j := by unfold qlF; rw [h]
theorem ql_clos {c : Nat → RawR} (i j : Nat) : (qlF c i j).clos = true := by
 match j with
 | 0 => rfl
 | 1 => rfl
 | 2 => rfl
 | 3 => rfl
 | j + 4 => rfl
namespace Rf
set_option maxHeartbeats 4000000 in
theorem ztrim_ok {n : Nat} {c : Nat → RawZ} (hn : n ≤ 1048576) : FnOK Tryz.prog false 162 [.c (zl n c)] (.c (zl (tb (fun i => decide ((c i).ds.length = 0)) n) c)) := by
 refine fn_ok (E := E0) E0_ok Tryz.func162 rfl mixed (by kernel_rfl) (by kernel_rfl) ?_
 conv => whnf
 refine loop_ints (fun m : Nat => gst [(0, .c (zl m c))] []) (fun m => m) (fun m => m ≤ n ∧ tb (fun i => decide ((c i).ds.length = 0)) m = tb (fun i => decide ((c i).ds.length = 0)) n) n rfl (Weak.gen [] rfl trivial ⟨.inl ⟨_, _, rfl, rfl, fun _ _ _ _ => rfl⟩, trivial⟩) ⟨Nat.le_refl _, rfl⟩ fun m ⟨hm, ht⟩ => ?_
 have hz : ∀ k, m = k + 1 → (c k).ds.length = 0 → tb (fun i => decide ((c i).ds.length = 0)) k = tb (fun i => decide ((c i).ds.length = 0)) n := fun k e h => by
  rw [← ht, e]
  simp only [tb]
  rw [if_pos (decide_eq_true h)]
 have hz' : ∀ k, m = k + 1 → (c k).ds.length ≠ 0 → m = tb (fun i => decide ((c i).ds.length = 0)) n := fun k e h => by
  rw [← ht, e]
  simp only [tb]
  rw [if_neg (by simpa using h)]
 have h0 : m = 0 → m = tb (fun i => decide ((c i).ds.length = 0)) n := fun e => by rw [← ht, e]; rfl
 clear ht
 generalize tb (fun i => decide ((c i).ds.length = 0)) n = N at *
 conv => whnf
 refine bcase (fun (h : gw true (decide ((0 : Int) < m)) = true) => ?_) fun (h : gw true (decide ((0 : Int) < m)) = false) => ?_
 ·have h := of_decide_eq_true (gw_true.1 h)
  have ek : m = ((m : Int) - 1).toNat + 1 := by omega
  have g1 := hz _ ek
  have g2 := hz' _ ek
  conv => whnf
  refine ⟨i64 (by omega) (by omega), ?_⟩
  conv => whnf
  refine ⟨by omega, by omega, ?_⟩
  conv => whnf
  refine bcase (fun (h1 : decide (((c ((m : Int) - 1).toNat).ds.length : Int) = 0) = true) => ?_) fun (h1 : decide (((c ((m : Int) - 1).toNat).ds.length : Int) = 0) = false) => ?_
  ·have h1 := of_decide_eq_true h1
   have g := g1 (by omega)
   conv => whnf
   refine ⟨i64 (by omega) (by omega), ?_⟩
   conv => whnf
   refine ⟨by omega, by omega, ?_⟩
   conv => whnf
   refine ⟨by omega, ?_⟩
   conv => whnf
   exact ⟨((m : Int) - 1).toNat, by omega, Weak.gen [] rfl trivial ⟨.inl ⟨_, _, rfl, by omega, fun i j hi hj => zlF_eq (c := c) (e := c) (i := Int.toNat 0 + i) (k := i) (congrArg c (by omega))⟩, trivial⟩, by omega, g⟩
  ·have h1 := of_decide_eq_false h1
   have g := g2 (by omega)
   conv => whnf
   exact ⟨rfl, subRowG g fun _ _ _ _ => rfl⟩
 ·have h : ¬ (0 : Int) < m := of_decide_eq_false (gw_false.1 h)
  have g := h0 (by omega)
  conv => whnf
  exact ⟨rfl, subRowG g fun _ _ _ _ => rfl⟩
set_option maxHeartbeats 4000000 in
theorem qtrim_ok {n : Nat} {c : Nat → RawR} (hn : n ≤ 1048576) : FnOK Tryz.prog false 160 [.c (ql n c)] (.c (ql (tb (fun i => decide ((c i).num.ds.length = 0)) n) c)) := by
 refine fn_ok (E := E0) E0_ok Tryz.func160 rfl mixed (by kernel_rfl) (by kernel_rfl) ?_
 conv => whnf
 refine loop_ints (fun m : Nat => gst [(0, .c (ql m c))] []) (fun m => m) (fun m => m ≤ n ∧ tb (fun i => decide ((c i).num.ds.length = 0)) m = tb (fun i => decide ((c i).num.ds.length = 0)) n) n rfl (Weak.gen [] rfl trivial ⟨.inl ⟨_, _, rfl, rfl, fun _ _ _ _ => rfl⟩, trivial⟩) ⟨Nat.le_refl _, rfl⟩ fun m ⟨hm, ht⟩ => ?_
 have hz : ∀ k, m = k + 1 → (c k).num.ds.length = 0 → tb (fun i => decide ((c i).num.ds.length = 0)) k = tb (fun i => decide ((c i).num.ds.length = 0)) n := fun k e h => by
  rw [← ht, e]
  simp only [tb]
  rw [if_pos (decide_eq_true h)]
 have hz' : ∀ k, m = k + 1 → (c k).num.ds.length ≠ 0 → m = tb (fun i => decide ((c i).num.ds.length = 0)) n := fun k e h => by
  rw [← ht, e]
  simp only [tb]
  rw [if_neg (by simpa using h)]
 have h0 : m = 0 → m = tb (fun i => decide ((c i).num.ds.length = 0)) n := fun e => by rw [← ht, e]; rfl
 clear ht
 generalize tb (fun i => decide ((c i).num.ds.length = 0)) n = N at *
 conv => whnf
 refine bcase (fun (h : gw true (decide ((0 : Int) < m)) = true) => ?_) fun (h : gw true (decide ((0 : Int) < m)) = false) => ?_
 ·have h := of_decide_eq_true (gw_true.1 h)
  have ek : m = ((m : Int) - 1).toNat + 1 := by omega
  have g1 := hz _ ek
  have g2 := hz' _ ek
  conv => whnf
  refine ⟨i64 (by omega) (by omega), ?_⟩
  conv => whnf
  refine ⟨by omega, by omega, ?_⟩
  conv => whnf
  refine bcase (fun (h1 : decide (((c ((m : Int) - 1).toNat).num.ds.length : Int) = 0) = true) => ?_) fun (h1 : decide (((c ((m : Int) - 1).toNat).num.ds.length : Int) = 0) = false) => ?_
  ·have h1 := of_decide_eq_true h1
   have g := g1 (by omega)
   conv => whnf
   refine ⟨i64 (by omega) (by omega), ?_⟩
   conv => whnf
   refine ⟨by omega, by omega, ?_⟩
   conv => whnf
   refine ⟨by omega, ?_⟩
   conv => whnf
   exact ⟨((m : Int) - 1).toNat, by omega, Weak.gen [] rfl trivial ⟨.inl ⟨_, _, rfl, by omega, fun i j hi hj => qlF_eq (c := c) (e := c) (i := Int.toNat 0 + i) (k := i) (congrArg c (by omega))⟩, trivial⟩, by omega, g⟩
  ·have h1 := of_decide_eq_false h1
   have g := g2 (by omega)
   conv => whnf
   exact ⟨rfl, subRowG g fun _ _ _ _ => rfl⟩
 ·have h : ¬ (0 : Int) < m := of_decide_eq_false (gw_false.1 h)
  have g := h0 (by omega)
  conv => whnf
  exact ⟨rfl, subRowG g fun _ _ _ _ => rfl⟩
end Rf
end Go.Proofs.YtmbejakmeijcbaaGreat
/- Normal forms of lists in the program, and the form of a number field. -/
namespace Go.Proofs.YtmbejakmeijcbaaGreat
open Go.RowKit
namespace Rf
def zpF (v : Nat → Int) (i k : Nat) : List Cell := if k < i then nz (v k) else [.bool false, .nil]
theorem zp_next (v : Nat → Int) (i k : Nat) : (if k = i then nz (v i) else zpF v i k) = zpF v (i + 1) k := by
 unfold zpF
 by_cases e : k = i
 ·rw [if_pos e, if_pos (by omega), e]
 ·rw [if_neg e]
  by_cases e2 : k < i
  ·rw [if_pos e2, if_pos (by omega)]
  ·rw [if_neg e2, if_neg (by omega)]
theorem zp_clos {v : Nat → Int} {i : Nat} (k j : Nat) : ((zpF v i k).getD j .any).clos = true := by
 unfold zpF
 split
 ·exact zl_clos (c := fun i => ofZ (v i)) k j
 ·match j with
  | 0 => rfl
  | 1 => rfl
  | j + 2 => rfl
theorem zp_all {v : Nat → Int} {n k : Nat} (h : k < n) (j : Nat) : (zpF v n k).getD j .any = zlF (fun i => ofZ (v i)) k j := by
 unfold zpF; rw [if_pos h]
theorem zp_zero (v : Nat → Int) (k : Nat) : zpF v 0 k = [.bool false, .nil] := by
 unfold zpF; rw [if_neg (Nat.not_lt_zero k)]
abbrev gzp (n : Nat) (v : Nat → Int) (i : Nat) : Gx := ⟨44, 2, n, fun k j => (zpF v i k).getD j .any⟩
set_option maxHeartbeats 4000000 in
theorem znormal_ok {n : Nat} {c : Nat → RawZ} (h : wl n c) : FnOK Tryz.prog true 127 [.c (zl n c)] (.c (nl (tl (vz c) n) (vz c))) := by
 have hn := h.1
 have h1 : ∀ i, i < n → FnOK Tryz.prog true 161 [.g (zr (c i))] (.g (nz (vz c i))) := fun i hi => normal_ok (h.2 i hi).1 (Nat.le_trans (h.2 i hi).2 (by decide))
 have h2 : FnOK Tryz.prog true 162 [.c (nl n (vz c))] (.c (nl (tl (vz c) n) (vz c))) := by
  have := (ztrim_ok (c := fun i => ofZ (vz c i)) hn).weak (r := true)
  rwa [tb_tl (p := fun i => decide ((ofZ (vz c i)).ds.length = 0)) (v := vz c) (n := n) fun i _ => ⟨fun a => zlen_eq_zero.1 (of_decide_eq_true a), fun a => decide_eq_true (zlen_eq_zero.2 a)⟩] at this
 clear h
 generalize vz c = v at *
 have hT : ∀ i, i = n → FnOK Tryz.prog true 162 [.c (.row 2 n fun k j => (zpF v i k).getD j .any)] (.c (nl (tl v n) v)) := fun i e => arg_ok h2 fun D w vs h => by
  match vs, h with
  | [v1], ⟨h1, _⟩ => exact ⟨subRowG rfl (fun k j hk hj => by rw [e]; exact zp_all hk j) D w v1 h1, trivial⟩
 refine fn_ok (E := E1) E1_ok Tryz.func127 rfl mixed (by kernel_rfl) (by kernel_rfl) ?_
 conv => whnf
 refine ⟨by omega, Int.le_refl _, by omega, by show (32 : Int) * n ≤ 281474976710656; omega, ?_⟩
 conv => whnf
 refine loop_ints (fun i : Nat => gst [(3, .c (.gs 0 0)), (9, .c (zl n c)), (10, .c (.int .i64 n)), (11, .c (.int .i64 i))] [gzp n v i]) (fun i => n - i) (fun i => i ≤ n) 0 rfl (Weak.gen [some 0] rfl ⟨⟨_, rfl, rfl, rfl, by show Int.toNat n = n; omega, rfl, fun k j hk hj => ?_⟩, trivial⟩ ⟨⟨_, rfl, rfl, rfl⟩, .inl ⟨_, _, rfl, rfl, fun _ _ _ _ => rfl⟩, ⟨_, rfl, rfl⟩, ⟨_, rfl, rfl⟩, trivial⟩) (Nat.zero_le _) fun i hi => ?_
 ·exact regE (congrArg (fun l => l.getD j .any) (zp_zero v k).symm) (zp_clos k j)
 conv => whnf
 refine bcase (fun (h : decide ((i : Int) < n) = true) => ?_) fun (h : decide ((i : Int) < n) = false) => ?_
 ·have h := of_decide_eq_true h
  have g1 := h1 i (by omega)
  conv => whnf
  refine ⟨by omega, by omega, ?_⟩
  conv => whnf
  refine ⟨_, g1, ?_⟩
  conv => whnf
  refine ⟨by omega, by show (i : Int) < (n : Int); omega, ?_⟩
  conv => whnf
  refine ⟨i64 (by omega) (by omega), ?_⟩
  conv => whnf
  refine ⟨i + 1, by omega, Weak.gen [some 0] rfl ⟨⟨_, rfl, rfl, rfl, rfl, rfl, fun j k hj hk => regE ?_ (zp_clos j k)⟩, trivial⟩ ⟨⟨_, rfl, rfl, rfl⟩, .inl ⟨_, _, rfl, rfl, fun _ _ _ _ => rfl⟩, ⟨_, rfl, rfl⟩, ⟨_, rfl, rfl⟩, trivial⟩, by omega⟩
  exact updG (sz := 2) (g := zpF v i) (g' := zpF v (i + 1)) (l := nz (v i)) rfl hk (zp_next v i j)
 ·have h := of_decide_eq_false h
  have g := hT i (by omega)
  conv => whnf
  refine ⟨fun k j _ _ => zp_clos k j, ?_⟩
  conv => whnf
  refine ⟨_, g, ?_⟩
  conv => whnf
  exact ⟨rfl, Sub.refl _⟩
set_option maxHeartbeats 4000000 in
theorem qwhole_ok {a : RawZ} (ha : wr a) : FnOK Tryz.prog true 159 [.g (zr a)] (.g (nq (a.val : Rat))) := by
 have h1 := normal_ok ha.1 (Nat.le_trans ha.2 (by decide))
 have h2 := of_ok (x := 1) (by decide) (by decide)
 refine fn_ok (E := E1) E1_ok Tryz.func159 rfl mixed (by kernel_rfl) (by kernel_rfl) ?_
 conv => whnf
 refine ⟨_, h1, ?_⟩
 conv => whnf
 refine ⟨_, h2, ?_⟩
 conv => whnf
 refine ⟨rfl, leaf (x := (a.val : Rat)) (n := a.val) (d := 1) ?_⟩
 unfold ofR; simp
def qpF (v : Nat → Rat) (i k : Nat) : List Cell := if k < i then nq (v k) else [.bool false, .nil, .bool false, .nil]
theorem qp_next (v : Nat → Rat) (i k : Nat) : (if k = i then nq (v i) else qpF v i k) = qpF v (i + 1) k := by
 unfold qpF
 by_cases e : k = i
 ·rw [if_pos e, if_pos (by omega), e]
 ·rw [if_neg e]
  by_cases e2 : k < i
  ·rw [if_pos e2, if_pos (by omega)]
  ·rw [if_neg e2, if_neg (by omega)]
theorem qp_clos {v : Nat → Rat} {i : Nat} (k j : Nat) : ((qpF v i k).getD j .any).clos = true := by
 unfold qpF
 split
 ·exact ql_clos (c := fun i => ofR (v i)) k j
 ·match j with
  | 0 => rfl
  | 1 => rfl
  | 2 => rfl
  | 3 => rfl
  | j + 4 => rfl
theorem qp_all {v : Nat → Rat} {n k : Nat} (h : k < n) (j : Nat) : (qpF v n k).getD j .any = qlF (fun i => ofR (v i)) k j := by
 unfold qpF; rw [if_pos h]
theorem qp_zero (v : Nat → Rat) (k : Nat) : qpF v 0 k = [.bool false, .nil, .bool false, .nil] := by
 unfold qpF; rw [if_neg (Nat.not_lt_zero k)]
abbrev gqp (n : Nat) (v : Nat → Rat) (i : Nat) : Gx := ⟨46, 4, n, fun k j => (qpF v i k).getD j .any⟩
abbrev nql (n : Nat) (v : Nat → Rat) : Cell := ql n fun i => ofR (v i)
set_option maxHeartbeats 4000000 in
theorem qpof_eq {n : Nat} {c : Nat → RawZ} {v : Nat → Rat} (hv : (fun i => ((vz c i : Int) : Rat)) = v) (h : wl n c) : FnOK Tryz.prog true 126 [.c (zl n c)] (.c (nql (tl (vz c) n) v)) := by
 have hn := h.1
 have h1 : ∀ i, i < n → FnOK Tryz.prog true 159 [.g (zr (c i))] (.g (nq (v i))) := fun i hi => by
  rw [← hv]
  exact qwhole_ok (h.2 i hi)
 have h2 : FnOK Tryz.prog true 160 [.c (nql n fun i => ((vz c i : Int) : Rat))] (.c (nql (tl (vz c) n) fun i => ((vz c i : Int) : Rat))) := by
  have := (qtrim_ok (c := fun i => ofR ((vz c i : Int) : Rat)) hn).weak (r := true)
  rwa [tb_tl (p := fun i => decide ((ofR ((vz c i : Int) : Rat)).num.ds.length = 0)) (v := vz c) (n := n) fun i _ => ⟨fun a => by
   have := zlen_eq_zero.1 (of_decide_eq_true a)
   simpa using this, fun a => decide_eq_true (zlen_eq_zero.2 (by simpa using a))⟩] at this
 rw [hv] at h2
 clear h hv
 generalize tl (vz c) n = N at *
 have hT : ∀ i, i = n → FnOK Tryz.prog true 160 [.c (.row 4 n fun k j => (qpF v i k).getD j .any)] (.c (nql N v)) := fun i e => arg_ok h2 fun D w vs h => by
  match vs, h with
  | [v1], ⟨h1, _⟩ => exact ⟨subRowG rfl (fun k j hk hj => by rw [e]; exact qp_all hk j) D w v1 h1, trivial⟩
 refine fn_ok (E := E1) E1_ok Tryz.func126 rfl mixed (by kernel_rfl) (by kernel_rfl) ?_
 conv => whnf
 refine ⟨by omega, Int.le_refl _, by omega, by show (64 : Int) * n ≤ 281474976710656; omega, ?_⟩
 conv => whnf
 refine loop_ints (fun i : Nat => gst [(3, .c (.gs 0 0)), (9, .c (zl n c)), (10, .c (.int .i64 n)), (11, .c (.int .i64 i))] [gqp n v i]) (fun i => n - i) (fun i => i ≤ n) 0 rfl (Weak.gen [some 0] rfl ⟨⟨_, rfl, rfl, rfl, by show Int.toNat n = n; omega, rfl, fun k j hk hj => ?_⟩, trivial⟩ ⟨⟨_, rfl, rfl, rfl⟩, .inl ⟨_, _, rfl, rfl, fun _ _ _ _ => rfl⟩, ⟨_, rfl, rfl⟩, ⟨_, rfl, rfl⟩, trivial⟩) (Nat.zero_le _) fun i hi => ?_
 ·exact regE (congrArg (fun l => l.getD j .any) (qp_zero v k).symm) (qp_clos k j)
 conv => whnf
 refine bcase (fun (h : decide ((i : Int) < n) = true) => ?_) fun (h : decide ((i : Int) < n) = false) => ?_
 ·have h := of_decide_eq_true h
  have g1 := h1 i (by omega)
  conv => whnf
  refine ⟨by omega, by omega, ?_⟩
  conv => whnf
  refine ⟨_, g1, ?_⟩
  conv => whnf
  refine ⟨by omega, by show (i : Int) < (n : Int); omega, ?_⟩
  conv => whnf
  refine ⟨i64 (by omega) (by omega), ?_⟩
  conv => whnf
  refine ⟨i + 1, by omega, Weak.gen [some 0] rfl ⟨⟨_, rfl, rfl, rfl, rfl, rfl, fun j k hj hk => regE ?_ (qp_clos j k)⟩, trivial⟩ ⟨⟨_, rfl, rfl, rfl⟩, .inl ⟨_, _, rfl, rfl, fun _ _ _ _ => rfl⟩, ⟨_, rfl, rfl⟩, ⟨_, rfl, rfl⟩, trivial⟩, by omega⟩
  exact updG (sz := 4) (g := qpF v i) (g' := qpF v (i + 1)) (l := nq (v i)) rfl hk (qp_next v i j)
 ·have h := of_decide_eq_false h
  have g := hT i (by omega)
  conv => whnf
  refine .inr ⟨fun k j _ _ => qp_clos k j, ?_⟩
  conv => whnf
  refine ⟨_, g, ?_⟩
  conv => whnf
  exact ⟨rfl, Sub.refl _⟩
set_option maxHeartbeats 4000000 in
theorem qcmp_ok {q p : RawR} {L L' : Nat} (h : q.Fit L) (h' : p.Fit L') (h0 : 1 ≤ L') (hL : L + L' + 4 ≤ LIM) {K : Nat} (hf : qlen (q.val - p.val) ≤ K) (hK : K + 3 ≤ LIM) : FnOK Tryz.prog true 79 [.g (rr q), .g (rr p)] (.c (.int .i64 (q.val - p.val).num.sign)) := by
 have h1 := qsub_ok h h' h0 (by omega)
 have h2 := qsign_ok (q := ofR (q.val - p.val)) (ofR_fit hf) hK
 rw [ofR_val] at h2
 refine fn_ok (E := E1) E1_ok Tryz.func79 rfl mixed (by kernel_rfl) (by kernel_rfl) ?_
 conv => whnf
 refine ⟨_, h1, ?_⟩
 conv => whnf
 refine ⟨_, h2, ?_⟩
 conv => whnf
 exact ⟨rfl, Sub.refl _⟩
theorem qlen_int {x : Int} {L : Nat} (h : zlen x ≤ L) (h1 : 1 ≤ L) : qlen (x : Rat) ≤ L := by
 have z1 : zlen 1 = 1 := rfl
 unfold qlen
 rw [show ((x : Rat).num) = x by simp, show (((x : Rat).den : Nat) : Int) = 1 by simp]
 omega
theorem qcmp_one {x : Int} (h : zlen x ≤ 1048576) : FnOK Tryz.prog true 79 [.g (nq (x : Rat)), .g (nq ((1 : Int) : Rat))] (.c (.int .i64 (x - 1).sign)) := by
 have z1 : zlen 1 = 1 := rfl
 have h1 : qlen ((x : Rat) - ((1 : Int) : Rat)) ≤ 1048577 := by
  rw [← Rat.intCast_sub]
  refine qlen_int ?_ (by decide)
  have := zlen_add x (-1)
  rw [zlen_neg] at this
  rw [Int.sub_eq_add_neg]
  omega
 have := qcmp_ok (q := ofR (x : Rat)) (p := ofR ((1 : Int) : Rat)) (ofR_fit (qlen_int h (by decide))) (ofR_fit (qlen_int (x := 1) (L := 1) (by omega) (by decide))) (by decide) (by decide) (K := 1048577) (by rw [ofR_val, ofR_val]; exact h1) (by decide)
 rw [ofR_val, ofR_val, ← Rat.intCast_sub, Rat.num_intCast] at this
 exact this
end Rf
end Go.Proofs.YtmbejakmeijcbaaGreat
/- Short lists of fractions. -/
namespace Go.Proofs.YtmbejakmeijcbaaGreat
open Go.RowKit
namespace Rf
def dgq (a : RawR) : Prop := Dg.ok a.num.ds ∧ Dg.ok a.den.ds
end Rf
end Go.Proofs.YtmbejakmeijcbaaGreat
/- Polynomials over the rational numbers, as functions: sums of products, and division by a monic one. No condition. -/
namespace Go.Proofs.YtmbejakmeijcbaaGreat
namespace Q
def su (f : Nat → Rat) : Nat → Rat
 | 0 => 0
 | n + 1 => su f n + f n
theorem su_congr {f g : Nat → Rat} : ∀ {n : Nat}, (∀ i, i < n → f i = g i) → su f n = su g n
 | 0, _ => rfl
 | n + 1, h => by
  unfold su
  rw [su_congr fun i hi => h i (by omega), h n (by omega)]
theorem su_add {f g : Nat → Rat} : ∀ {n : Nat}, su (fun i => f i + g i) n = su f n + su g n
 | 0 => (Rat.add_zero 0).symm
 | n + 1 => by
  unfold su
  rw [su_add]
  grind
theorem su_mul {c : Rat} {f : Nat → Rat} : ∀ {n : Nat}, su (fun i => c * f i) n = c * su f n
 | 0 => (Rat.mul_zero c).symm
 | n + 1 => by
  unfold su
  rw [su_mul, Rat.mul_add]
theorem su_zero {f : Nat → Rat} : ∀ {n : Nat}, (∀ i, i < n → f i = 0) → su f n = 0
 | 0, _ => rfl
 | n + 1, h => by
  unfold su
  rw [su_zero fun i hi => h i (by omega), h n (by omega), Rat.add_zero]
theorem su_head {f : Nat → Rat} : ∀ {n : Nat}, su f (n + 1) = f 0 + su (fun i => f (i + 1)) n
 | 0 => by show 0 + f 0 = f 0 + 0; rw [Rat.add_comm]
 | n + 1 => by
  show su f (n + 1) + f (n + 1) = f 0 + (su (fun i => f (i + 1)) n + f (n + 1))
  rw [su_head, Rat.add_assoc]
theorem su_rev : ∀ {n : Nat} {f : Nat → Rat}, su f n = su (fun i => f (n - 1 - i)) n
 | 0, _ => rfl
 | n + 1, f => by
  rw [su_head, su_rev (n := n)]
  show f 0 + su (fun i => f (n - 1 - i + 1)) n = su (fun i => f (n + 1 - 1 - i)) n + f (n + 1 - 1 - n)
  rw [show n + 1 - 1 - n = 0 by omega, su_congr (g := fun i => f (n + 1 - 1 - i)) fun i hi => by
   show f (n - 1 - i + 1) = f (n + 1 - 1 - i)
   rw [show n - 1 - i + 1 = n + 1 - 1 - i by omega]]
  rw [Rat.add_comm]
theorem su_more {f : Nat → Rat} {n : Nat} (h : ∀ i, n ≤ i → f i = 0) : ∀ {m : Nat}, n ≤ m → su f m = su f n
 | 0, hm => by rw [show n = 0 by omega]
 | m + 1, hm => by
  rcases Nat.lt_or_ge m n with h1 | h1
  ·rw [show n = m + 1 by omega]
  ·rw [← su_more h h1]
   show su f m + f m = su f m
   rw [h m h1, Rat.add_zero]
theorem su_one {f : Nat → Rat} {t : Nat} : ∀ {n : Nat}, t < n → (∀ i, i < n → i ≠ t → f i = 0) → su f n = f t
 | 0, h, _ => absurd h (Nat.not_lt_zero t)
 | n + 1, h, h0 => by
  unfold su
  by_cases e : t = n
  ·subst e
   rw [su_zero fun i hi => h0 i (by omega) (by omega), Rat.zero_add]
  ·rw [su_one (t := t) (by omega) fun i hi he => h0 i (by omega) he, h0 n (by omega) (fun h => e h.symm), Rat.add_zero]
def cf (F G : Nat → Rat) (k : Nat) : Rat := su (fun i => F i * G (k - i)) (k + 1)
theorem cf_comm (F G : Nat → Rat) (k : Nat) : cf F G k = cf G F k := by
 unfold cf
 rw [su_rev]
 refine su_congr fun i hi => ?_
 rw [show k + 1 - 1 - i = k - i by omega, show k - (k - i) = i by omega, Rat.mul_comm]
theorem cf_add (F G H : Nat → Rat) (k : Nat) : cf F (fun i => G i + H i) k = cf F G k + cf F H k := by
 unfold cf
 rw [← su_add]
 exact su_congr fun i _ => Rat.mul_add _ _ _
theorem cf_smul (c : Rat) (F G : Nat → Rat) (k : Nat) : cf (fun i => c * F i) G k = c * cf F G k := by
 unfold cf
 rw [← su_mul]
 exact su_congr fun i _ => Rat.mul_assoc _ _ _
theorem cf_add_left (F G H : Nat → Rat) (k : Nat) : cf (fun i => F i + G i) H k = cf F H k + cf G H k := by
 rw [cf_comm, cf_add, cf_comm H F, cf_comm H G]
theorem cf_congr {F F' G G' : Nat → Rat} (h : ∀ i, F i = F' i) (h' : ∀ i, G i = G' i) (k : Nat) : cf F G k = cf F' G' k :=
 su_congr fun i _ => by rw [h, h']
theorem su_tri {f : Nat → Nat → Rat} : ∀ {n : Nat}, su (fun i => su (fun j => f j (i - j)) (i + 1)) n = su (fun j => su (fun l => f j l) (n - j)) n
 | 0 => rfl
 | n + 1 => by
  show su (fun i => su (fun j => f j (i - j)) (i + 1)) n + su (fun j => f j (n - j)) (n + 1) = su (fun j => su (fun l => f j l) (n + 1 - j)) n + su (fun l => f n l) (n + 1 - n)
  rw [su_tri, show n + 1 - n = 0 + 1 by omega]
  have e : su (fun j => su (fun l => f j l) (n + 1 - j)) n = su (fun j => su (fun l => f j l) (n - j) + f j (n - j)) n := su_congr fun j hj => by
   show su (fun l => f j l) (n + 1 - j) = _
   rw [show n + 1 - j = n - j + 1 by omega]
   rfl
  rw [e, su_add]
  show _ + (su (fun j => f j (n - j)) n + f n (n - n)) = _ + (0 + f n 0)
  rw [Nat.sub_self, Rat.zero_add, Rat.add_assoc]
theorem cf_assoc (F G H : Nat → Rat) (k : Nat) : cf (fun i => cf F G i) H k = cf F (fun i => cf G H i) k := by
 have e1 : cf (fun i => cf F G i) H k = su (fun i => su (fun j => F j * G (i - j) * H (k - (i - j) - j)) (i + 1)) (k + 1) := su_congr fun i hi => by
  show su (fun j => F j * G (i - j)) (i + 1) * H (k - i) = _
  rw [Rat.mul_comm, ← su_mul]
  refine su_congr fun j hj => ?_
  rw [show k - (i - j) - j = k - i by omega, Rat.mul_comm]
 have e2 : cf F (fun i => cf G H i) k = su (fun j => su (fun l => F j * G l * H (k - l - j)) (k + 1 - j)) (k + 1) := su_congr fun j hj => by
  show F j * su (fun l => G l * H (k - j - l)) (k - j + 1) = _
  rw [← su_mul, show k - j + 1 = k + 1 - j by omega]
  refine su_congr fun l hl => ?_
  rw [show k - l - j = k - j - l by omega, Rat.mul_assoc]
 rw [e1, e2]
 exact su_tri (f := fun j l => F j * G l * H (k - l - j))
def Fin (n : Nat) (F : Nat → Rat) : Prop := ∀ k, n ≤ k → F k = 0
theorem Fin.mono {n m : Nat} {F : Nat → Rat} (h : Fin n F) (hm : n ≤ m) : Fin m F := fun k hk => h k (by omega)
theorem Fin.add {n : Nat} {F G : Nat → Rat} (h : Fin n F) (h' : Fin n G) : Fin n fun i => F i + G i := fun k hk => by
 show F k + G k = 0
 rw [h k hk, h' k hk, Rat.add_zero]
theorem Fin.smul {n : Nat} {F : Nat → Rat} (c : Rat) (h : Fin n F) : Fin n fun i => c * F i := fun k hk => by
 show c * F k = 0
 rw [h k hk, Rat.mul_zero]
theorem Fin.cf {n m : Nat} {F G : Nat → Rat} (h : Fin n F) (h' : Fin m G) : Fin (n + m) (cf F G) := fun k hk => su_zero fun i hi => by
 rcases Nat.lt_or_ge i n with c | c
 ·rw [h' (k - i) (by omega), Rat.mul_zero]
 ·rw [h i c, Rat.zero_mul]
structure Mon (n : Nat) (f : Nat → Rat) : Prop where
 top : f n = 1
 fin : Fin (n + 1) f
theorem cf_top {n t : Nat} {f q : Nat → Rat} (hf : Mon n f) (hq : Fin (t + 1) q) : cf q f (t + n) = q t := by
 have h : cf q f (t + n) = q t * f (t + n - t) := su_one (t := t) (by omega) fun i hi he => by
  rcases Nat.lt_or_ge i (t + 1) with c | c
  ·rw [hf.fin (t + n - i) (by omega), Rat.mul_zero]
  ·rw [hq i c, Rat.zero_mul]
 rw [h, show t + n - t = n by omega, hf.top, Rat.mul_one]
theorem no_multiple {n : Nat} {f : Nat → Rat} (hf : Mon n f) : ∀ {N : Nat} {q : Nat → Rat}, Fin N q → (∀ k, n ≤ k → cf q f k = 0) → ∀ k, q k = 0
 | 0, _, hq, _, k => hq k (Nat.zero_le k)
 | N + 1, q, hq, h, k => by
  have h1 : q N = 0 := by
   have := h (N + n) (by omega)
   rwa [cf_top hf hq] at this
  exact no_multiple hf (N := N) (fun k hk => by
   rcases Nat.lt_or_ge N k with c | c
   ·exact hq k (by omega)
   ·rw [show k = N by omega]; exact h1) h k
def Rm (n : Nat) (f p r : Nat → Rat) : Prop := Fin n r ∧ ∃ (N : Nat) (q : Nat → Rat), Fin N q ∧ ∀ k, p k = cf q f k + r k
theorem cf_neg (F G : Nat → Rat) (k : Nat) : cf (fun i => -F i) G k = -cf F G k := by
 have := cf_smul (-1) F G k
 rw [cf_congr (F := fun i => -F i) (F' := fun i => -1 * F i) (G' := G) (fun i => by grind) (fun _ => rfl), this]
 grind
theorem Rm.eq {n : Nat} {f p r s : Nat → Rat} (hf : Mon n f) (h : Rm n f p r) (h' : Rm n f p s) : ∀ k, r k = s k := by
 obtain ⟨h1, N, q, h2, h3⟩ := h
 obtain ⟨g1, M, t, g2, g3⟩ := h'
 have hd : ∀ k, cf (fun i => q i + -t i) f k = s k - r k := fun k => by
  rw [cf_add_left, cf_neg]
  have a := h3 k
  have b := g3 k
  grind
 have hz := no_multiple hf (N := max N M) (q := fun i => q i + -t i) (fun k hk => by
  show q k + -t k = 0
  rw [h2 k (by omega), g2 k (by omega)]; grind) fun k hk => by
   rw [hd, h1 k hk, g1 k hk]; grind
 intro k
 have a := hd k
 rw [cf_congr (F' := fun _ => 0) (G' := f) hz (fun _ => rfl)] at a
 have b : cf (fun _ => 0) f k = 0 := su_zero fun i _ => Rat.zero_mul _
 rw [b] at a
 grind
theorem Rm.self {n : Nat} {f r : Nat → Rat} (h : Fin n r) : Rm n f r r :=
 ⟨h, 0, fun _ => 0, fun _ _ => rfl, fun k => by
  rw [show cf (fun _ => 0) f k = 0 from su_zero fun i _ => Rat.zero_mul _, Rat.zero_add]⟩
theorem Rm.congr {n : Nat} {f p p' r : Nat → Rat} (h : Rm n f p r) (e : ∀ k, p k = p' k) : Rm n f p' r := by
 obtain ⟨h1, N, q, h2, h3⟩ := h
 exact ⟨h1, N, q, h2, fun k => by rw [← e, h3]⟩
theorem Rm.add {n : Nat} {f p r p' r' : Nat → Rat} (h : Rm n f p r) (h' : Rm n f p' r') : Rm n f (fun k => p k + p' k) fun k => r k + r' k := by
 obtain ⟨h1, N, q, h2, h3⟩ := h
 obtain ⟨g1, M, t, g2, g3⟩ := h'
 refine ⟨h1.add g1, max N M, fun i => q i + t i, (h2.mono (Nat.le_max_left _ _)).add (g2.mono (Nat.le_max_right _ _)), fun k => ?_⟩
 rw [cf_add_left]
 have a := h3 k
 have b := g3 k
 grind
theorem Rm.smul {n : Nat} {f p r : Nat → Rat} (c : Rat) (h : Rm n f p r) : Rm n f (fun k => c * p k) fun k => c * r k := by
 obtain ⟨h1, N, q, h2, h3⟩ := h
 refine ⟨h1.smul c, N, fun i => c * q i, h2.smul c, fun k => ?_⟩
 rw [cf_smul]
 have a := h3 k
 grind
theorem Rm.mul {n m : Nat} {f p r g s : Nat → Rat} (h : Rm n f p r) (hg : Fin m g) (h' : Rm n f (cf r g) s) : Rm n f (cf p g) s := by
 obtain ⟨h1, N, q, h2, h3⟩ := h
 obtain ⟨g1, M, t, g2, g3⟩ := h'
 refine ⟨g1, max (N + m) M, fun i => cf q g i + t i, ((h2.cf hg).mono (Nat.le_max_left _ _)).add (g2.mono (Nat.le_max_right _ _)), fun k => ?_⟩
 rw [cf_add_left]
 have a : cf p g k = cf (cf q f) g k + cf r g k := by
  rw [cf_congr (F' := fun i => cf q f i + r i) (G' := g) h3 (fun _ => rfl), cf_add_left]
 have b : cf (cf q f) g k = cf (cf q g) f k := by
  have e1 := cf_assoc q f g k
  have e2 := cf_assoc q g f k
  rw [show cf (cf q f) g k = cf (fun i => cf q f i) g k from rfl, e1, show cf (cf q g) f k = cf (fun i => cf q g i) f k from rfl, e2]
  exact cf_congr (fun _ => rfl) (fun i => cf_comm f g i) k
 have c := g3 k
 rw [a, b, c]
 grind
def dv (n : Nat) (f : Nat → Rat) : Nat → (Nat → Rat) → Nat → Rat
 | 0, p => p
 | N + 1, p => dv n f N fun k => p k - (if N ≤ k then p (N + n) * f (k - N) else 0)
theorem cf_mono (c : Rat) (N : Nat) (f : Nat → Rat) (k : Nat) : cf (fun i => if i = N then c else 0) f k = if N ≤ k then c * f (k - N) else 0 := by
 by_cases h : N ≤ k
 ·rw [if_pos h]
  have := su_one (f := fun i => (if i = N then c else 0) * f (k - i)) (t := N) (n := k + 1) (by omega) fun i hi he => by
   show (if i = N then c else 0) * _ = 0
   rw [if_neg he, Rat.zero_mul]
  show su _ _ = _
  rw [this]
  show (if N = N then c else 0) * _ = _
  rw [if_pos rfl]
 ·rw [if_neg h]
  exact su_zero fun i hi => by
   show (if i = N then c else 0) * _ = 0
   rw [if_neg (by omega), Rat.zero_mul]
theorem dv_rm {n : Nat} {f : Nat → Rat} (hf : Mon n f) : ∀ {N : Nat} {p : Nat → Rat}, Fin (N + n) p → Rm n f p (dv n f N p)
 | 0, p, h => Rm.self (by rw [Nat.zero_add] at h; exact h)
 | N + 1, p, h => by
  have h1 : Fin (N + n) fun k => p k - (if N ≤ k then p (N + n) * f (k - N) else 0) := fun k hk => by
   show p k - (if N ≤ k then p (N + n) * f (k - N) else 0) = 0
   rw [if_pos (by omega)]
   by_cases e : k = N + n
   ·rw [e, show N + n - N = n by omega, hf.top]; grind
   ·rw [h k (by omega), hf.fin (k - N) (by omega)]; grind
  obtain ⟨g1, M, q, g2, g3⟩ := dv_rm hf h1
  refine ⟨g1, max M (N + 1), fun i => q i + (if i = N then p (N + n) else 0), (g2.mono (Nat.le_max_left _ _)).add (fun k hk => if_neg (by omega)), fun k => ?_⟩
  have a : p k - (if N ≤ k then p (N + n) * f (k - N) else 0) = cf q f k + dv n f N (fun k => p k - (if N ≤ k then p (N + n) * f (k - N) else 0)) k := g3 k
  rw [cf_add_left, cf_mono]
  show p k = _ + dv n f N (fun k => p k - (if N ≤ k then p (N + n) * f (k - N) else 0)) k
  grind
def dvs (n : Nat) (f : Nat → Rat) (N : Nat) (p : Nat → Rat) : Nat → Nat → Rat
 | 0, k => p k
 | t + 1, k => dvs n f N p t k - (if N - 1 - t ≤ k then dvs n f N p t (N - 1 - t + n) * f (k - (N - 1 - t)) else 0)
theorem dvs_dv {n : Nat} {f : Nat → Rat} {N : Nat} {p : Nat → Rat} : ∀ {t : Nat}, t ≤ N → dv n f (N - t) (dvs n f N p t) = dv n f N p
 | 0, _ => rfl
 | t + 1, h => by
  refine Eq.trans ?_ (dvs_dv (n := n) (f := f) (N := N) (p := p) (t := t) (by omega))
  have e : N - t = N - (t + 1) + 1 := by omega
  rw [e]
  show dv n f (N - (t + 1)) _ = dv n f (N - (t + 1)) _
  refine congrArg _ (funext fun k => ?_)
  show dvs n f N p t k - _ = _
  rw [show N - 1 - t = N - (t + 1) by omega]
theorem dvs_rm {n : Nat} {f : Nat → Rat} (hf : Mon n f) {N : Nat} {p : Nat → Rat} (h : Fin (N + n) p) : Rm n f p (dvs n f N p N) := by
 have e : dv n f N p = dvs n f N p N := by
  rw [← dvs_dv (Nat.le_refl N), Nat.sub_self]; rfl
 rw [← e]
 exact dv_rm hf h
def dpt (c : Rat) (f r : Nat → Rat) (i j k : Nat) : Rat := r k - (if i ≤ k ∧ k < i + j then c * f (k - i) else 0)
theorem dpt_zero (c : Rat) (f r : Nat → Rat) (i k : Nat) : dpt c f r i 0 k = r k := by
 unfold dpt
 rw [if_neg (by omega)]; grind
theorem dpt_old {c : Rat} {f r : Nat → Rat} {i j : Nat} : dpt c f r i j (i + j) = r (i + j) := by
 unfold dpt
 rw [if_neg (by omega)]; grind
theorem dpt_next (c : Rat) (f r : Nat → Rat) (i j k : Nat) : (if k = i + j then r (i + j) - c * f j else dpt c f r i j k) = dpt c f r i (j + 1) k := by
 unfold dpt
 by_cases e : k = i + j
 ·rw [if_pos e, if_pos (by omega), e, show i + j - i = j by omega]
 ·rw [if_neg e]
  by_cases e2 : i ≤ k ∧ k < i + j
  ·rw [if_pos e2, if_pos (by omega)]
  ·rw [if_neg e2, if_neg (by omega)]
theorem dpt_all {n : Nat} {f : Nat → Rat} (hf : Fin (n + 1) f) {N : Nat} {p : Nat → Rat} {t : Nat} (k : Nat) : dpt (dvs n f N p t (N - 1 - t + n)) f (dvs n f N p t) (N - 1 - t) (n + 1) k = dvs n f N p (t + 1) k := by
 show _ = dvs n f N p t k - _
 unfold dpt
 by_cases e : N - 1 - t ≤ k
 ·rw [if_pos e]
  by_cases e2 : k < N - 1 - t + (n + 1)
  ·rw [if_pos ⟨e, e2⟩]
  ·rw [if_neg (by omega), hf (k - (N - 1 - t)) (by omega)]; grind
 ·rw [if_neg (by omega), if_neg e]
theorem dpt_none {c : Rat} (h : c = 0) (f r : Nat → Rat) (i j k : Nat) : dpt c f r i j k = r k := by
 unfold dpt
 split
 ·rw [h]; grind
 ·grind
def dvq (n : Nat) (f : Nat → Rat) (N : Nat) (p : Nat → Rat) (i : Nat) : Rat := dvs n f N p (N - 1 - i) (i + n)
def tq (v : Nat → Rat) : Nat → Nat
 | 0 => 0
 | n + 1 => if v n = 0 then tq v n else n + 1
theorem tq_le (v : Nat → Rat) : ∀ n, tq v n ≤ n
 | 0 => Nat.le_refl _
 | n + 1 => by
  unfold tq
  split
  ·exact Nat.le_succ_of_le (tq_le v n)
  ·exact Nat.le_refl _
theorem tq_top {v : Nat → Rat} : ∀ {n k : Nat}, tq v n = k + 1 → v k ≠ 0
 | 0, k, h => by simp [tq] at h
 | n + 1, k, h => by
  unfold tq at h
  split at h
  ·exact tq_top h
  ·rename_i h0
   obtain rfl : n = k := by omega
   exact h0
theorem tq_behind {v : Nat → Rat} : ∀ {n k : Nat}, tq v n ≤ k → k < n → v k = 0
 | 0, k, _, h => absurd h (Nat.not_lt_zero k)
 | n + 1, k, h, hk => by
  unfold tq at h
  split at h
  ·rename_i h0
   by_cases e : k = n
   ·rw [e]; exact h0
   ·exact tq_behind h (by omega)
  ·omega
theorem tq_self {v : Nat → Rat} {n : Nat} (h : ∀ k, n = k + 1 → v k ≠ 0) : tq v n = n := by
 cases n with
 | zero => rfl
 | succ k => unfold tq; rw [if_neg (h k rfl)]
theorem tq_congr {a b : Nat → Rat} : ∀ {n : Nat}, (∀ i, i < n → a i = b i) → tq a n = tq b n
 | 0, _ => rfl
 | n + 1, h => by
  unfold tq
  rw [h n (by omega), tq_congr fun i hi => h i (by omega)]
theorem tq_eq {v : Nat → Rat} {n m : Nat} (h : Fin n v) (h' : Fin m v) : tq v n = tq v m := by
 have key : ∀ {n m : Nat}, Fin n v → Fin m v → tq v n ≤ tq v m := fun {n m} h h' => by
  rcases Nat.lt_or_ge (tq v m) (tq v n) with c | c
  ·obtain ⟨k, hk⟩ : ∃ k, tq v n = k + 1 := ⟨tq v n - 1, by omega⟩
   refine absurd ?_ (tq_top hk)
   rcases Nat.lt_or_ge k m with c' | c'
   ·exact tq_behind (by omega) c'
   ·exact h' k c'
  ·exact c
 exact Nat.le_antisymm (key h h') (key h' h)
theorem tq_fin {v : Nat → Rat} {n : Nat} (h : Fin n v) : Fin (tq v n) v := fun k hk => by
 rcases Nat.lt_or_ge k n with c | c
 ·exact tq_behind hk c
 ·exact h k c
def qx (n : Nat) (v : Nat → Rat) (i : Nat) : Rat := if i < n then v i else 0
theorem qx_fin (n : Nat) (v : Nat → Rat) : Fin n (qx n v) := fun k hk => if_neg (by omega)
theorem qx_lt {n i : Nat} {v : Nat → Rat} (h : i < n) : qx n v i = v i := if_pos h
theorem qx_self {n : Nat} {v : Nat → Rat} (h : Fin n v) : qx n v = v := funext fun k => by
 unfold qx
 split
 ·rfl
 ·rename_i c; exact (h k (by omega)).symm
def mu (F G : Nat → Rat) (i k : Nat) : Rat := su (fun a => if a ≤ k then F a * G (k - a) else 0) i
def mp (c : Rat) (G r : Nat → Rat) (i j k : Nat) : Rat := r k + (if i ≤ k ∧ k < i + j then c * G (k - i) else 0)
end Q
end Go.Proofs.YtmbejakmeijcbaaGreat
/- Blocks as parts of themselves. -/
namespace Go.Proofs.YtmbejakmeijcbaaGreat
open Go.RowKit
theorem Weak.gs_sl {m0 : Nat} {tm tm' : Nat → V} {bl : List Blk} {k : Nat} {B : Blk} (hB : bl[k]? = some B) (hst : B.st ≤ 1) (ht : ∀ t, tm' t = tm t ∨ (tm t = .c (.gs k B.u) ∧ tm' t = .c (.sl k B.u B.sz 0 B.n))) : Weak m0 ⟨tm, bl⟩ ⟨tm', bl⟩ := by
 rintro C a w hm0 ⟨ρ, hs, hN, hdf, hf⟩
 refine ⟨ρ, hs, hN, hdf, fun t => ?_⟩
 have h := hf t
 rcases ht t with e | ⟨e1, e2⟩
 ·show VRel _ _ _ (tm' t) _
  rw [e]; exact h
 ·show VRel _ _ _ (tm' t) _
  rw [e2]
  have h : VRel (Dof C.D0 ρ bl) w ρ (tm t) (a.tmps.getD t undef) := h
  rw [e1] at h
  obtain ⟨l, l1, l2, l3⟩ := h
  refine ⟨l, l1, l2, fun hu => ?_⟩
  have ev := l3 hu
  have hat := hs.at_ k l B l1 hB hst
  rcases hat.2 with ⟨p1, p2, p3⟩ | ⟨b, cap, cs, p2, p3, p4, p5, p6, p7, p8, p9⟩
  ·have e : l.v = .slice none 0 0 := p3
   have en : l.n = 0 := by unfold Loc.v at e; injection e
   refine ⟨by omega, none, 0, by rw [ev, p3, p1], by omega, fun h => by omega⟩
  ·have e : l.v = .slice (some ⟨b, 0, none⟩) B.n cap := p4
   have en : l.n = B.n := by unfold Loc.v at e; injection e
   exact ⟨by omega, some ⟨b, 0, none⟩, cap, by rw [ev, p4], p7, fun _ => ⟨b, p2, by rw [Nat.zero_mul]⟩⟩
end Go.Proofs.YtmbejakmeijcbaaGreat
/- Lists of fractions in the program: what is dropped at the end, in a block of the caller's; the normal form, in a block of its own. -/
namespace Go.Proofs.YtmbejakmeijcbaaGreat
open Go.RowKit
abbrev qB (n : Nat) (c : Nat → RawR) : Blk := ⟨46, 4, n, 0, 0, qlF c⟩
theorem qB_plain (n : Nat) (c : Nat → RawR) : (qB n c).plain := fun _ i j _ _ => ql_clos i j
namespace Rf
theorem ql_lt {c : Nat → RawR} {m : Nat} (i j : Nat) : (qlF c i j).lt m = true := by
 match j with
 | 0 => rfl
 | 1 => rfl
 | 2 => rfl
 | 3 => rfl
 | j + 4 => rfl
theorem tb_tq {p : Nat → Bool} {v : Nat → Rat} : ∀ {n : Nat}, (∀ i, i < n → (p i = true ↔ v i = 0)) → tb p n = Q.tq v n
 | 0, _ => rfl
 | n + 1, h => by
  have h1 := h n (by omega)
  unfold tb Q.tq
  rw [tb_tq fun i hi => h i (by omega)]
  by_cases c : v n = 0
  ·rw [if_pos (h1.2 c), if_pos c]
  ·rw [if_neg (fun e => c (h1.1 e)), if_neg c]
theorem num_zero (x : Rat) : decide ((ofR x).num.ds.length = 0) = true ↔ x = 0 :=
 ⟨fun a => Rat.num_eq_zero.1 (zlen_eq_zero.1 (of_decide_eq_true a)), fun a => decide_eq_true (zlen_eq_zero.2 (Rat.num_eq_zero.2 a))⟩
theorem qtrim_nql {n : Nat} {v : Nat → Rat} (hn : n ≤ 1048576) : FnOK Tryz.prog true 160 [.c (nql n v)] (.c (nql (Q.tq v n) v)) := by
 have := (qtrim_ok (c := fun i => ofR (v i)) hn).weak (r := true)
 rwa [tb_tq (p := fun i => decide ((ofR (v i)).num.ds.length = 0)) (v := v) fun i _ => num_zero _] at this
set_option maxHeartbeats 4000000 in
theorem qtrim_m {n : Nat} {c : Nat → RawR} (hn : n ≤ 1048576) : FnM Tryz.prog true 160 (qB n c) [.c (.gs 0 0)] (.c (.sl 0 0 4 0 (tb (fun i => decide ((c i).num.ds.length = 0)) n))) (qB n c) [] := by
 obtain ⟨N, hN⟩ : ∃ N, N = tb (fun i => decide ((c i).num.ds.length = 0)) n := ⟨_, rfl⟩
 rw [← hN]
 refine fnm_ok (E := E1m) E1m_ok Tryz.func160 rfl mixed (by kernel_rfl) (by kernel_rfl) rfl ?_
 conv => whnf
 refine loop_inv (fun k σ => ∃ m : Nat, k = m ∧ (m ≤ n ∧ tb (fun i => decide ((c i).num.ds.length = 0)) m = N) ∧ σ = ⟨asg [(0, .c (.sl 0 0 4 0 m))], [qB n c]⟩) n ?_ ?_
 ·refine ⟨_, (Weak.cut (tl := [(0, .c (.gs 0 0))]) (bl' := [qB n c]) rfl ⟨rfl, trivial⟩ rfl ⟨fun _ i j _ _ => ql_lt i j, trivial⟩ rfl).trans (Weak.gs_sl (tm' := asg [(0, .c (.sl 0 0 4 0 n))]) (k := 0) (B := qB n c) rfl (Nat.zero_le _) fun t => ?_), n, rfl, ⟨Nat.le_refl _, hN.symm⟩, rfl⟩
  by_cases e : t = 0
  ·subst e; exact .inr ⟨rfl, rfl⟩
  ·refine .inl ?_
   simp only [asg, if_neg e]
 ·rintro k σ' ⟨m, hk, ⟨hm, ht⟩, rfl⟩
  have hz : ∀ k, m = k + 1 → (c k).num.ds.length = 0 → tb (fun i => decide ((c i).num.ds.length = 0)) k = N := fun k e h => by
   rw [← ht, e]
   simp only [tb]
   rw [if_pos (decide_eq_true h)]
  have hz' : ∀ k, m = k + 1 → (c k).num.ds.length ≠ 0 → m = N := fun k e h => by
   rw [← ht, e]
   simp only [tb]
   rw [if_neg (by simpa using h)]
  have h0 : m = 0 → m = N := fun e => by rw [← ht, e]; rfl
  clear ht
  conv => whnf
  refine bcase (fun (h : gw true (decide ((0 : Int) < m)) = true) => ?_) fun (h : gw true (decide ((0 : Int) < m)) = false) => ?_
  ·have h := of_decide_eq_true (gw_true.1 h)
   have ek : m = ((m : Int) - 1).toNat + 1 := by omega
   conv => whnf
   refine ⟨i64 (by omega) (by omega), ?_⟩
   conv => whnf
   refine ⟨by omega, by omega, ?_⟩
   conv => whnf
   have ei : 0 + ((m : Int) - 1).toNat = ((m : Int) - 1).toNat := Nat.zero_add _
   have g1 : (c (0 + ((m : Int) - 1).toNat)).num.ds.length = 0 → tb (fun i => decide ((c i).num.ds.length = 0)) ((((m : Int) - 1) - 0).toNat) = N := fun a => by
    rw [ei] at a
    rw [Int.sub_zero]
    exact hz _ ek a
   have g2 : (c (0 + ((m : Int) - 1).toNat)).num.ds.length ≠ 0 → m = N := fun a => by
    rw [ei] at a
    exact hz' _ ek a
   refine bcase (fun (h1 : decide (((c (0 + ((m : Int) - 1).toNat)).num.ds.length : Int) = 0) = true) => ?_) fun (h1 : decide (((c (0 + ((m : Int) - 1).toNat)).num.ds.length : Int) = 0) = false) => ?_
   ·have h1 := of_decide_eq_true h1
    have g := g1 (by omega)
    conv => whnf
    refine ⟨i64 (by omega) (by omega), ?_⟩
    conv => whnf
    refine ⟨by omega, by omega, ?_⟩
    conv => whnf
    refine ⟨by omega, ?_⟩
    conv => whnf
    refine ⟨(((m : Int) - 1) - 0).toNat, by omega, ⟨asg [(0, .c (.sl 0 0 4 0 (((m : Int) - 1) - 0).toNat))], [qB n c]⟩, ?_, _, rfl, ⟨by omega, g⟩, rfl⟩
    exact Weak.cut (tl := [(0, .c (.sl 0 0 4 0 (((m : Int) - 1) - 0).toNat))]) (bl' := [qB n c]) rfl ⟨rfl, trivial⟩ rfl ⟨fun _ i j _ _ => ql_lt i j, trivial⟩ rfl
   ·have h1 := of_decide_eq_false h1
    have g := g2 (by omega)
    conv => whnf
    exact (Weak.cut (tl := [(0, .c (.sl 0 0 4 0 m))]) (bl' := [qB n c]) rfl ⟨rfl, trivial⟩ rfl ⟨fun _ i j _ _ => ql_lt i j, trivial⟩ rfl).trans (show Weak 1 ⟨asg [(0, .c (.sl 0 0 4 0 m))], [qB n c]⟩ ⟨asg [(0, .c (.sl 0 0 4 0 N))], [qB n c]⟩ from by rw [g]; exact Weak.refl _)
  ·have h : ¬ (0 : Int) < m := of_decide_eq_false (gw_false.1 h)
   have g := h0 (by omega)
   conv => whnf
   exact (Weak.cut (tl := [(0, .c (.sl 0 0 4 0 m))]) (bl' := [qB n c]) rfl ⟨rfl, trivial⟩ rfl ⟨fun _ i j _ _ => ql_lt i j, trivial⟩ rfl).trans (show Weak 1 ⟨asg [(0, .c (.sl 0 0 4 0 m))], [qB n c]⟩ ⟨asg [(0, .c (.sl 0 0 4 0 N))], [qB n c]⟩ from by rw [g]; exact Weak.refl _)
set_option maxHeartbeats 4000000 in
theorem qnorm_ok {n : Nat} {q : Nat → RawR} {L : Nat} {v : Nat → Rat} (hv : (fun i => (q i).val) = v) (hn : n ≤ 1048576) (hq : ∀ i, i < n → (q i).Fit L) (hL : L + 3 ≤ LIM) : FnOK Tryz.prog true 183 [.c (ql n q)] (.c (nql (Q.tq v n) v)) := by
 have h1 : ∀ i, i < n → FnOK Tryz.prog true 134 [.g (rr (q i))] (.g (nq (v i))) := fun i hi => by
  rw [← hv]
  exact qnormal_ok (hq i hi) hL
 have h2 := qtrim_nql (v := v) hn
 clear hv hq
 generalize Q.tq v n = N at *
 have hT : ∀ i, i = n → FnOK Tryz.prog true 160 [.c (.row 4 n fun k j => (qpF v i k).getD j .any)] (.c (nql N v)) := fun i e => arg_ok h2 fun D w vs h => by
  match vs, h with
  | [v1], ⟨h1, _⟩ => exact ⟨subRowG rfl (fun k j hk hj => by rw [e]; exact qp_all hk j) D w v1 h1, trivial⟩
 refine fn_ok (E := E1) E1_ok Tryz.func183 rfl mixed (by kernel_rfl) (by kernel_rfl) ?_
 conv => whnf
 refine ⟨by omega, Int.le_refl _, by omega, by show (64 : Int) * n ≤ 281474976710656; omega, ?_⟩
 conv => whnf
 refine loop_ints (fun i : Nat => gst [(3, .c (.gs 0 0)), (9, .c (ql n q)), (10, .c (.int .i64 n)), (11, .c (.int .i64 i))] [gqp n v i]) (fun i => n - i) (fun i => i ≤ n) 0 rfl (Weak.gen [some 0] rfl ⟨⟨_, rfl, rfl, rfl, by show Int.toNat n = n; omega, rfl, fun k j hk hj => ?_⟩, trivial⟩ ⟨⟨_, rfl, rfl, rfl⟩, .inl ⟨_, _, rfl, rfl, fun _ _ _ _ => rfl⟩, ⟨_, rfl, rfl⟩, ⟨_, rfl, rfl⟩, trivial⟩) (Nat.zero_le _) fun i hi => ?_
 ·exact regE (congrArg (fun l => l.getD j .any) (qp_zero v k).symm) (qp_clos k j)
 conv => whnf
 refine bcase (fun (h : decide ((i : Int) < n) = true) => ?_) fun (h : decide ((i : Int) < n) = false) => ?_
 ·have h := of_decide_eq_true h
  have g1 := h1 i (by omega)
  conv => whnf
  refine ⟨by omega, by omega, ?_⟩
  conv => whnf
  refine ⟨_, g1, ?_⟩
  conv => whnf
  refine ⟨by omega, by show (i : Int) < (n : Int); omega, ?_⟩
  conv => whnf
  refine ⟨i64 (by omega) (by omega), ?_⟩
  conv => whnf
  refine ⟨i + 1, by omega, Weak.gen [some 0] rfl ⟨⟨_, rfl, rfl, rfl, rfl, rfl, fun j k hj hk => regE ?_ (qp_clos j k)⟩, trivial⟩ ⟨⟨_, rfl, rfl, rfl⟩, .inl ⟨_, _, rfl, rfl, fun _ _ _ _ => rfl⟩, ⟨_, rfl, rfl⟩, ⟨_, rfl, rfl⟩, trivial⟩, by omega⟩
  exact updG (sz := 4) (g := qpF v i) (g' := qpF v (i + 1)) (l := nq (v i)) rfl hk (qp_next v i j)
 ·have h := of_decide_eq_false h
  have g := hT i (by omega)
  conv => whnf
  refine .inr ⟨fun k j _ _ => qp_clos k j, ?_⟩
  conv => whnf
  refine ⟨_, g, ?_⟩
  conv => whnf
  exact ⟨rfl, Sub.refl _⟩
def rmid (v : Nat → Rat) (i k : Nat) : RawR := if k < i then ofR (v k) else ⟨⟨false, []⟩, ⟨false, []⟩⟩
theorem rmid_next (v : Nat → Rat) (i k : Nat) : (if k = i then nq (v i) else rr (rmid v i k)) = rr (rmid v (i + 1) k) := by
 unfold rmid
 by_cases e : k = i
 ·rw [if_pos e, if_pos (by omega), e]
 ·rw [if_neg e]
  by_cases e2 : k < i
  ·rw [if_pos e2, if_pos (by omega)]
  ·rw [if_neg e2, if_neg (by omega)]
theorem rmid_all {v : Nat → Rat} {n k : Nat} (h : k < n) : rmid v n k = ofR (v k) := if_pos h
theorem rmid_zero (v : Nat → Rat) : rmid v 0 = fun _ => ⟨⟨false, []⟩, ⟨false, []⟩⟩ := funext fun k => if_neg (Nat.not_lt_zero k)
abbrev gqr (n : Nat) (c : Nat → RawR) : Gx := ⟨46, 4, n, qlF c⟩
set_option maxHeartbeats 4000000 in
theorem qnorm_m {n : Nat} {q : Nat → RawR} {L : Nat} {v : Nat → Rat} (hv : (fun i => (q i).val) = v) (hn : n ≤ 1048576) (hq : ∀ i, i < n → (q i).Fit L) (hL : L + 3 ≤ LIM) : FnM Tryz.prog true 183 phB [.c (ql n q)] (.c (.sl 1 0 4 0 (Q.tq v n))) phB [qB n fun i => ofR (v i)] := by
 have h1 : ∀ i, i < n → FnOK Tryz.prog true 134 [.g (rr (q i))] (.g (nq (v i))) := fun i hi => by
  rw [← hv]
  exact qnormal_ok (hq i hi) hL
 clear hv hq
 have hT : ∀ i, i = n → FnM Tryz.prog true 160 (qB n (rmid v i)) [.c (.gs 0 0)] (.c (.sl 0 0 4 0 (Q.tq v n))) (qB n (rmid v i)) [] := fun i e => by
  have := qtrim_m (n := n) (c := rmid v i) hn
  rwa [tb_tq (p := fun k => decide ((rmid v i k).num.ds.length = 0)) (v := v) fun k hk => by
   show decide ((rmid v i k).num.ds.length = 0) = true ↔ _
   rw [e, rmid_all hk]; exact num_zero _] at this
 generalize Q.tq v n = N at *
 refine fnm_ok (E := E1m) E1m_ok Tryz.func183 rfl mixed (by kernel_rfl) (by kernel_rfl) rfl ?_
 conv => whnf
 refine ⟨by omega, Int.le_refl _, by omega, by show (64 : Int) * n ≤ 281474976710656; omega, ?_⟩
 conv => whnf
 refine loop_ints1 (fun i : Nat => gst1 [(3, .c (.gs 1 0)), (9, .c (ql n q)), (10, .c (.int .i64 n)), (11, .c (.int .i64 i))] [gqr n (rmid v i)]) (fun i => n - i) (fun i => i ≤ n) 0 rfl (Weak.gen1 [some 1] rfl rfl ⟨⟨_, rfl, rfl, rfl, by show Int.toNat n = n; omega, rfl, fun k j hk hj => ?_⟩, trivial⟩ ⟨⟨_, rfl, rfl, rfl⟩, .inl ⟨_, _, rfl, rfl, fun _ _ _ _ => rfl⟩, ⟨_, rfl, rfl⟩, ⟨_, rfl, rfl⟩, trivial⟩) (Nat.zero_le _) fun i hi => ?_
 ·show regC 1 _ _ (qlF (rmid v 0) k j) _
  rw [rmid_zero]
  match j, hj with
  | 0, _ => exact ⟨_, rfl, rfl⟩
  | 1, _ => exact .inr (.inl ⟨rfl, rfl⟩)
  | 2, _ => exact ⟨_, rfl, rfl⟩
  | 3, _ => exact .inr (.inl ⟨rfl, rfl⟩)
 conv => whnf
 refine bcase (fun (h : decide ((i : Int) < n) = true) => ?_) fun (h : decide ((i : Int) < n) = false) => ?_
 ·have h := of_decide_eq_true h
  have g1 := h1 i (by omega)
  conv => whnf
  refine ⟨by omega, by omega, ?_⟩
  conv => whnf
  refine ⟨_, g1, ?_⟩
  conv => whnf
  refine ⟨by omega, by show (i : Int) < (n : Int); omega, ?_⟩
  conv => whnf
  refine ⟨i64 (by omega) (by omega), ?_⟩
  conv => whnf
  refine ⟨i + 1, by omega, Weak.gen1 [some 1] rfl rfl ⟨⟨_, rfl, rfl, rfl, rfl, rfl, fun j k hj hk => regE ?_ (ql_clos (c := rmid v (i + 1)) j k)⟩, trivial⟩ ⟨⟨_, rfl, rfl, rfl⟩, .inl ⟨_, _, rfl, rfl, fun _ _ _ _ => rfl⟩, ⟨_, rfl, rfl⟩, ⟨_, rfl, rfl⟩, trivial⟩, by omega⟩
  exact updG (sz := 4) (g := fun k => rr (rmid v i k)) (g' := fun k => rr (rmid v (i + 1) k)) (l := nq (v i)) rfl hk (rmid_next v i j)
 ·have h := of_decide_eq_false h
  have g := hT i (by omega)
  conv => whnf
  refine .inl ⟨[], false, ?_⟩
  conv => whnf
  refine ⟨1, _, [.c (.gs 0 0)], _, _, _, g, rfl, .inl rfl, qB_plain _ _, qB_plain _ _, fun F hF => absurd hF List.not_mem_nil, rfl, rfl, ?_⟩
  conv => whnf
  refine Weak.gen1 (tl := [(0, .c (.sl 1 0 4 0 N))]) (xs := [gqr n fun i => ofR (v i)]) [some 1] rfl rfl ?_ ?_
  ·exact ⟨⟨_, rfl, rfl, rfl, rfl, rfl, fun k j hk hj => regE (qlF_eq (c := rmid v i) (e := fun i => ofR (v i)) (i := k) (j := j) (k := k) (rmid_all (Nat.lt_of_lt_of_le hk (show n ≤ i by omega)))) (ql_clos (c := fun i => ofR (v i)) k j)⟩, trivial⟩
  ·exact ⟨⟨_, _, rfl, rfl, rfl, rfl⟩, trivial⟩
end Rf
end Go.Proofs.YtmbejakmeijcbaaGreat
/- Sums and products of lists of fractions in the program. -/
namespace Go.Proofs.YtmbejakmeijcbaaGreat
open Go.RowKit
namespace Rf
set_option maxHeartbeats 4000000 in
theorem qzero_ok {q : RawR} {L : Nat} {x : Rat} (hx : q.val = x) (h : q.Fit L) (hL : L + 3 ≤ LIM) : FnOK Tryz.prog true 191 [.g (rr q)] (.c (.bool (decide (x = 0)))) := by
 have h1 := qsign_ok h hL
 rw [hx] at h1
 have e : x.num.sign = 0 ↔ x = 0 := ⟨fun a => Rat.num_eq_zero.1 (Int.sign_eq_zero_iff_zero.1 a), fun a => by rw [a]; rfl⟩
 refine fn_ok (E := E1) E1_ok Tryz.func191 rfl mixed (by kernel_rfl) (by kernel_rfl) ?_
 conv => whnf
 refine ⟨_, h1, ?_⟩
 conv => whnf
 exact ⟨rfl, sub_bool (decide_eq_decide.2 e)⟩
theorem qzero_nq (x : Rat) {L : Nat} (h : qlen x ≤ L) (hL : L + 3 ≤ LIM) : FnOK Tryz.prog true 191 [.g (nq x)] (.c (.bool (decide (x = 0)))) :=
 qzero_ok (q := ofR x) (ofR_val x) (ofR_fit h) hL
abbrev zraw : RawR := ⟨⟨false, []⟩, ⟨false, []⟩⟩
abbrev zcells : List Cell := [.bool false, .nil, .bool false, .nil]
theorem zraw_fit (L : Nat) : zraw.Fit L := ⟨fun _ hd => absurd hd List.not_mem_nil, fun _ hd => absurd hd List.not_mem_nil, Nat.zero_le _, Nat.zero_le _⟩
theorem zraw_val : zraw.val = 0 := by
 show ratio _ (sgn false (Dg.val [])) = 0
 exact ratio_zero_right _
theorem zsub : Sub (.g zcells) (.g (rr zraw)) := Sub.cells rfl fun i x y hx hy => by
 match i, hx, hy with
 | 0, hx, hy => cases hx; cases hy; exact SubC.refl _
 | 1, hx, hy => cases hx; cases hy; exact SubC.nil _ _
 | 2, hx, hy => cases hx; cases hy; exact SubC.refl _
 | 3, hx, hy => cases hx; cases hy; exact SubC.nil _ _
 | i + 4, hx, hy => simp at hx
theorem qadd_any {x y : RawR} {lx ly : List Cell} {L : Nat} {z : Rat} (hx : x.Fit L) (hy : y.Fit L) (sx : Sub (.g lx) (.g (rr x))) (sy : Sub (.g ly) (.g (rr y))) (hL : L + L + 4 ≤ LIM) (hz : x.val + y.val = z) : FnOK Tryz.prog true 92 [.g lx, .g ly] (.g (nq z)) := by
 have h := qadd_ok hx hy hL
 rw [hz] at h
 refine arg_ok h fun D w vs h => ?_
 match vs, h with
 | [v0, v1], ⟨h0, h1, _⟩ => exact ⟨sx D w v0 h0, sy D w v1 h1, trivial⟩
set_option maxHeartbeats 8000000 in
theorem qpadd_ok {n m : Nat} {q p : Nat → RawR} {L : Nat} {v : Nat → Rat} (hv : ∀ i, i < max n m → Q.qx n (fun i => (q i).val) i + Q.qx m (fun i => (p i).val) i = v i) (hn : n ≤ 1048576) (hm : m ≤ 1048576) (hq : ∀ i, i < n → (q i).Fit L) (hp : ∀ i, i < m → (p i).Fit L) (hL : L + L + 4 ≤ LIM) : FnOK Tryz.prog true 189 [.c (ql n q), .c (ql m p), .c (.fn 92)] (.c (nql (Q.tq v (max n m)) v)) := by
 obtain ⟨M, hM⟩ : ∃ M, M = max n m := ⟨_, rfl⟩
 rw [← hM] at hv ⊢
 have a1 : ∀ i, i < M → i < n → i < m → FnOK Tryz.prog true 92 [.g (rr (q i)), .g (rr (p i))] (.g (nq (v i))) := fun i h h1 h2 => qadd_any (hq i h1) (hp i h2) (Sub.refl _) (Sub.refl _) hL (by rw [← hv i h, Q.qx_lt h1, Q.qx_lt h2])
 have a2 : ∀ i, i < M → i < n → ¬ i < m → FnOK Tryz.prog true 92 [.g (rr (q i)), .g zcells] (.g (nq (v i))) := fun i h h1 h2 => qadd_any (hq i h1) (zraw_fit L) (Sub.refl _) zsub hL (by rw [← hv i h, Q.qx_lt h1, zraw_val]; unfold Q.qx; rw [if_neg h2])
 have a3 : ∀ i, i < M → ¬ i < n → i < m → FnOK Tryz.prog true 92 [.g zcells, .g (rr (p i))] (.g (nq (v i))) := fun i h h1 h2 => qadd_any (zraw_fit L) (hp i h2) zsub (Sub.refl _) hL (by rw [← hv i h, Q.qx_lt h2, zraw_val]; unfold Q.qx; rw [if_neg h1])
 have hMn : M ≤ 1048576 := by omega
 have h2 := qtrim_nql (v := v) hMn
 have eM : (if ((m : Nat) : Int) > ((n : Nat) : Int) then ((m : Nat) : Int) else ((n : Nat) : Int)) = (M : Nat) := by split <;> omega
 have eM2 : (if ((m : Nat) : Int) > ((n : Nat) : Int) then ((m : Nat) : Int) else ((n : Nat) : Int)).toNat = M := by rw [eM]; omega
 clear hv hq hp
 generalize Q.tq v M = N at *
 have hT : ∀ i, i = M → FnOK Tryz.prog true 160 [.c (.row 4 M fun k j => (qpF v i k).getD j .any)] (.c (nql N v)) := fun i e => arg_ok h2 fun D w vs h => by
  match vs, h with
  | [v1], ⟨h1, _⟩ => exact ⟨subRowG rfl (fun k j hk hj => by rw [e]; exact qp_all hk j) D w v1 h1, trivial⟩
 refine fn_ok (E := E1) E1_ok Tryz.func189 rfl mixed (by kernel_rfl) (by kernel_rfl) ?_
 conv => whnf
 refine ⟨by rw [eM]; omega, Int.le_refl _, by rw [eM]; omega, by show (64 : Int) * (if ((m : Nat) : Int) > ((n : Nat) : Int) then ((m : Nat) : Int) else ((n : Nat) : Int)) ≤ 281474976710656; rw [eM]; omega, ?_⟩
 conv => whnf
 refine loop_ints (fun i : Nat => gst [(0, .c (ql n q)), (1, .c (ql m p)), (2, .c (.fn 92)), (7, .c (.gs 0 0)), (18, .c (.int .i64 M)), (19, .c (.int .i64 i))] [gqp M v i]) (fun i => M - i) (fun i => i ≤ M) 0 rfl (Weak.gen [some 0] rfl ⟨⟨_, rfl, rfl, rfl, eM2, rfl, fun k j hk hj => ?_⟩, trivial⟩ ⟨.inl ⟨_, _, rfl, rfl, fun _ _ _ _ => rfl⟩, .inl ⟨_, _, rfl, rfl, fun _ _ _ _ => rfl⟩, ⟨rfl, rfl⟩, ⟨_, rfl, rfl, rfl⟩, ⟨_, rfl, by show ((if ((m : Nat) : Int) > ((n : Nat) : Int) then ((m : Nat) : Int) else ((n : Nat) : Int)).toNat : Int) = _; rw [eM2]⟩, ⟨_, rfl, rfl⟩, trivial⟩) (Nat.zero_le _) fun i hi => ?_
 ·exact regE (congrArg (fun l => l.getD j .any) (qp_zero v k).symm) (qp_clos k j)
 have b1 := a1 i
 have b2 := a2 i
 have b3 := a3 i
 conv => whnf
 refine bcase (fun (h : decide ((i : Int) < M) = true) => ?_) fun (h : decide ((i : Int) < M) = false) => ?_
 ·have h := of_decide_eq_true h
  have b1 := b1 (by omega)
  have b2 := b2 (by omega)
  have b3 := b3 (by omega)
  conv => whnf
  refine bcase (fun (c1 : decide ((i : Int) < n) = true) => ?_) fun (c1 : decide ((i : Int) < n) = false) => ?_
  ·have c1 := of_decide_eq_true c1
   have b1 := b1 (by omega)
   have b2 := b2 (by omega)
   conv => whnf
   refine ⟨by omega, by omega, ?_⟩
   conv => whnf
   refine bcase (fun (c2 : decide ((i : Int) < m) = true) => ?_) fun (c2 : decide ((i : Int) < m) = false) => ?_
   ·have c2 := of_decide_eq_true c2
    have b1 := b1 (by omega)
    conv => whnf
    refine ⟨by omega, by omega, ?_⟩
    conv => whnf
    refine ⟨_, b1, ?_⟩
    conv => whnf
    refine ⟨by omega, by show (i : Int) < (M : Int); omega, ?_⟩
    conv => whnf
    refine ⟨i64 (by omega) (by omega), ?_⟩
    conv => whnf
    refine ⟨i + 1, by omega, Weak.gen [some 0] rfl ⟨⟨_, rfl, rfl, rfl, rfl, rfl, fun j k hj hk => regE ?_ (qp_clos j k)⟩, trivial⟩ ⟨.inl ⟨_, _, rfl, rfl, fun _ _ _ _ => rfl⟩, .inl ⟨_, _, rfl, rfl, fun _ _ _ _ => rfl⟩, ⟨rfl, rfl⟩, ⟨_, rfl, rfl, rfl⟩, ⟨_, rfl, rfl⟩, ⟨_, rfl, rfl⟩, trivial⟩, by omega⟩
    exact updG (sz := 4) (g := qpF v i) (g' := qpF v (i + 1)) (l := nq (v i)) rfl hk (qp_next v i j)
   ·have c2 := of_decide_eq_false c2
    have b2 := b2 (by omega)
    conv => whnf
    refine ⟨_, b2, ?_⟩
    conv => whnf
    refine ⟨by omega, by show (i : Int) < (M : Int); omega, ?_⟩
    conv => whnf
    refine ⟨i64 (by omega) (by omega), ?_⟩
    conv => whnf
    refine ⟨i + 1, by omega, Weak.gen [some 0] rfl ⟨⟨_, rfl, rfl, rfl, rfl, rfl, fun j k hj hk => regE ?_ (qp_clos j k)⟩, trivial⟩ ⟨.inl ⟨_, _, rfl, rfl, fun _ _ _ _ => rfl⟩, .inl ⟨_, _, rfl, rfl, fun _ _ _ _ => rfl⟩, ⟨rfl, rfl⟩, ⟨_, rfl, rfl, rfl⟩, ⟨_, rfl, rfl⟩, ⟨_, rfl, rfl⟩, trivial⟩, by omega⟩
    exact updG (sz := 4) (g := qpF v i) (g' := qpF v (i + 1)) (l := nq (v i)) rfl hk (qp_next v i j)
  ·have c1 := of_decide_eq_false c1
   have c2 : i < m := by omega
   have b3 := b3 (by omega) c2
   conv => whnf
   refine bpos (show decide ((i : Int) < m) = true from decide_eq_true (by omega)) ?_
   conv => whnf
   refine ⟨by omega, by omega, ?_⟩
   conv => whnf
   refine ⟨_, b3, ?_⟩
   conv => whnf
   refine ⟨by omega, by show (i : Int) < (M : Int); omega, ?_⟩
   conv => whnf
   refine ⟨i64 (by omega) (by omega), ?_⟩
   conv => whnf
   refine ⟨i + 1, by omega, Weak.gen [some 0] rfl ⟨⟨_, rfl, rfl, rfl, rfl, rfl, fun j k hj hk => regE ?_ (qp_clos j k)⟩, trivial⟩ ⟨.inl ⟨_, _, rfl, rfl, fun _ _ _ _ => rfl⟩, .inl ⟨_, _, rfl, rfl, fun _ _ _ _ => rfl⟩, ⟨rfl, rfl⟩, ⟨_, rfl, rfl, rfl⟩, ⟨_, rfl, rfl⟩, ⟨_, rfl, rfl⟩, trivial⟩, by omega⟩
   exact updG (sz := 4) (g := qpF v i) (g' := qpF v (i + 1)) (l := nq (v i)) rfl hk (qp_next v i j)
 ·have h := of_decide_eq_false h
  have g := hT i (by omega)
  conv => whnf
  refine .inr ⟨fun k j _ _ => qp_clos k j, ?_⟩
  conv => whnf
  refine ⟨_, g, ?_⟩
  conv => whnf
  exact ⟨rfl, Sub.refl _⟩
set_option maxHeartbeats 4000000 in
theorem qpAdd_ok {n m : Nat} {q p : Nat → RawR} {L : Nat} {v : Nat → Rat} (hv : ∀ i, i < max n m → Q.qx n (fun i => (q i).val) i + Q.qx m (fun i => (p i).val) i = v i) (hn : n ≤ 1048576) (hm : m ≤ 1048576) (hq : ∀ i, i < n → (q i).Fit L) (hp : ∀ i, i < m → (p i).Fit L) (hL : L + L + 4 ≤ LIM) : FnOK Tryz.prog true 158 [.c (ql n q), .c (ql m p)] (.c (nql (Q.tq v (max n m)) v)) := by
 have h := qpadd_ok hv hn hm hq hp hL
 refine fn_ok (E := E1) E1_ok Tryz.func158 rfl mixed (by kernel_rfl) (by kernel_rfl) ?_
 conv => whnf
 refine ⟨_, h, ?_⟩
 conv => whnf
 exact ⟨rfl, Sub.refl _⟩
end Rf
end Go.Proofs.YtmbejakmeijcbaaGreat
/- Products of lists of fractions in the program. -/
namespace Go.Proofs.YtmbejakmeijcbaaGreat
open Go.RowKit
namespace Rf
theorem qlen_mul {x y : Rat} {L L' : Nat} (hx : qlen x ≤ L) (hy : qlen y ≤ L') (h1 : 1 ≤ L + L') : qlen (x * y) ≤ L + L' := by
 have e : x * y = ratio (x.num * y.num) ((x.den : Int) * (y.den : Int)) := by
  rw [← ratio_mul, ratio_num_den, ratio_num_den]
 rw [e]
 unfold qlen at hx hy
 have a1 := zlen_mul x.num y.num
 have a2 := zlen_mul (x.den : Int) (y.den : Int)
 exact qlen_ratio (by omega) (by omega) h1
theorem tq_zero {v : Nat → Rat} (h : ∀ k, v k = 0) : ∀ n, Q.tq v n = 0
 | 0 => rfl
 | n + 1 => by unfold Q.tq; rw [if_pos (h n), tq_zero h n]
theorem qof_zero : FnOK Tryz.prog true 44 [.c (.int .i64 0)] (.g (nq 0)) := by
 have h := qof_ok (n := 0) (by decide) (by decide)
 rwa [show ((0 : Int) : Rat) = 0 from rfl] at h
end Rf
end Go.Proofs.YtmbejakmeijcbaaGreat
