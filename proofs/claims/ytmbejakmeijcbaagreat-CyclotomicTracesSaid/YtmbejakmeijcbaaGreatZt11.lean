/- Matrices in the program: rows stored. -/
import Derived.Test.YtmbejakmeijcbaaGreatZt10
import Derived.Test.YtmbejakmeijcbaaGreatZt9
import Derived.Test.YtmbejakmeijcbaaGreatZt5
namespace Go.Proofs.YtmbejakmeijcbaaGreat
open Go.RowKit
namespace Rf
theorem one_ql {bl : List Blk} {c : Nat → RawR} (r : Bool) (i j : Nat) (hj : j < 4) : St.one bl (qlF c i j) = true ∧ (r = true → (qlF c i j).noU = true) := by
 match j, hj with
 | 0, _ => exact ⟨rfl, fun _ => rfl⟩
 | 1, _ => exact ⟨rfl, fun _ => rfl⟩
 | 2, _ => exact ⟨rfl, fun _ => rfl⟩
 | 3, _ => exact ⟨rfl, fun _ => rfl⟩
theorem row_in {n m i a b : Nat} {G : Nat → Nat → Rat} (hi : i < n) (ha : a < i * m + m) : appF (i * m) (qlF fun k => ofR (G (k / m) (k % m))) (qlF fun k => ofR (G i k)) a b = qlF (fun k => ofR (G (k / m) (k % m))) a b := by
 unfold appF
 split
 ·rfl
 ·rename_i h
  obtain ⟨j, rfl⟩ : ∃ j, a = i * m + j := ⟨a - i * m, by omega⟩
  obtain ⟨_, e2, e3⟩ := mat_idx hi (show j < m by omega)
  refine qlF_eq ?_
  rw [e2, e3, show i * m + j - i * m = j by omega]
set_option maxHeartbeats 8000000 in
theorem store_ok {n m : Nat} {G : Nat → Nat → Rat} (hn : n ≤ 64) (hm : m ≤ 64) : FnOK Tryz.prog true 165 [.c (.int .i64 m), .c (rowsC n m G)] (.g (matL n m G)) := by
 have hnm : ∀ i, i ≤ n → i * m ≤ 4096 := fun i hi => Nat.le_trans (Nat.mul_le_mul (show i ≤ 64 by omega) hm) (by decide)
 refine fn_ok (E := E1) E1_ok Tryz.func165 rfl mixed (by kernel_rfl) (by kernel_rfl) ?_
 conv => whnf
 refine loop_ints (fun i : Nat => gst [(4, .c (.p 0 0 3 0 0)), (5, .c (.p 1 0 3 0 0)), (12, .c (rowsC n m G)), (13, .c (.int .i64 n)), (14, .c (.int .i64 i))] [⟨88, 3, 1, boxF [.int .i64 0, .int .i64 0, .nil]⟩, ⟨88, 3, 1, boxF [.int .i64 n, .int .i64 m, .gs 2 0]⟩, gqr (i * m) fun k => ofR (G (k / m) (k % m))]) (fun i => n - i) (fun i => i ≤ n) 0 rfl ?_ (Nat.zero_le _) fun i hi => ?_
 ·refine Weak.gen [some 0, some 1, none] rfl ⟨boxK rfl rfl, ⟨_, rfl, rfl, rfl, rfl, rfl, fun a b ha hb => by
   obtain rfl := Nat.lt_one_iff.1 ha
   match b, hb with
   | 0, _ => exact ⟨_, rfl, rfl⟩
   | 1, _ => exact ⟨_, rfl, rfl⟩
   | 2, _ => exact rfl⟩, Nat.zero_mul m, trivial⟩ ⟨⟨_, rfl, rfl, rfl⟩, ⟨_, rfl, rfl, rfl⟩, .inl ⟨_, _, rfl, rfl, fun _ _ _ _ => rfl⟩, ⟨_, rfl, rfl⟩, ⟨_, rfl, rfl⟩, trivial⟩
 have e1 := hnm i hi
 conv => whnf
 refine bcase (fun (h : decide ((i : Int) < n) = true) => ?_) fun (h : decide ((i : Int) < n) = false) => ?_
 ·have h := of_decide_eq_true h
  have hin : i < n := by omega
  conv => whnf
  refine ⟨by omega, by omega, ?_⟩
  conv => whnf
  refine ⟨by show i * m + m ≤ 16777216; omega, fun a b ha hb => one_ql (c := fun k => ofR (G i k)) _ a b hb, ?_⟩
  conv => whnf
  refine ⟨i64 (by omega) (by omega), ?_⟩
  conv => whnf
  exact ⟨i + 1, by omega, Weak.gen [some 0, some 1, some 2] rfl ⟨boxK rfl rfl, ⟨_, rfl, rfl, rfl, rfl, rfl, fun a b ha hb => by
   obtain rfl := Nat.lt_one_iff.1 ha
   match b, hb with
   | 0, _ => exact ⟨_, rfl, rfl⟩
   | 1, _ => exact ⟨_, rfl, rfl⟩
   | 2, _ => exact ⟨_, rfl, rfl, rfl⟩⟩, ⟨_, rfl, rfl, rfl, (Nat.succ_mul i m).symm, rfl, fun a b ha hb => regE (row_in hin (by have ha : a < (i + 1) * m := ha; rwa [Nat.succ_mul] at ha)) (ql_clos (c := fun k => ofR (G (k / m) (k % m))) a b)⟩, trivial⟩ ⟨⟨_, rfl, rfl, rfl⟩, ⟨_, rfl, rfl, rfl⟩, .inl ⟨_, _, rfl, rfl, fun _ _ _ _ => rfl⟩, ⟨_, rfl, rfl⟩, ⟨_, rfl, rfl⟩, trivial⟩, by omega⟩
 ·have h := of_decide_eq_false h
  have e : i = n := by omega
  have g : Sub (.g [.int .i64 n, .int .i64 m, .row 4 (i * m) (qlF fun k => ofR (G (k / m) (k % m)))]) (.g (matL n m G)) := by rw [e]; exact Sub.refl _
  conv => whnf
  refine ⟨fun a b _ _ => ql_clos (c := fun k => ofR (G (k / m) (k % m))) a b, ?_⟩
  conv => whnf
  exact ⟨rfl, g⟩
end Rf
end Go.Proofs.YtmbejakmeijcbaaGreat
/- Matrices in the program: rows loaded. -/
namespace Go.Proofs.YtmbejakmeijcbaaGreat
open Go.RowKit
namespace Rf
structure Grd (m : Nat) (G : Nat → Nat → Rat) (F C : Nat → Nat → Cell) : Prop where
 old : ∀ i k, k < i → F i k = nql m (G k)
 new : ∀ i k, i ≤ k → F i k = .nil
 old' : ∀ i k, k < i → C i k = nql m (G k)
 at' : ∀ i, C i i = .gs 2 0
 new' : ∀ i k, i < k → C i k = .nil
theorem grd (m : Nat) (G : Nat → Nat → Rat) : ∃ F C, Grd m G F C :=
 ⟨fun i k => if k < i then nql m (G k) else .nil, fun i k => if k < i then nql m (G k) else if k = i then .gs 2 0 else .nil,
  fun _ _ h => if_pos h, fun _ _ h => if_neg (by omega), fun _ _ h => if_pos h, fun i => by
   show (if i < i then _ else if i = i then _ else _) = _
   rw [if_neg (Nat.lt_irrefl i), if_pos rfl], fun i k h => by
   show (if k < i then _ else if k = i then _ else _) = _
   rw [if_neg (by omega), if_neg (by omega)]⟩
abbrev gGrid (n : Nat) (f : Nat → Cell) : Gx := ⟨24, 1, n, fun k _ => f k⟩
theorem cell_keep {q : Nat} {bl : List Blk} {ks : List (Option Nat)} {m i : Nat} {G : Nat → Nat → Rat} {F C : Nat → Nat → Cell} (hg : Grd m G F C) (k : Nat) {g : Nat → Cell} (hgs : regC q bl ks (.gs 2 0) fun y => Cell.gs 2 0 = y) (e : g = C i) : regC q bl ks (C i k) fun y => g k = y := by
 subst e
 rcases Nat.lt_trichotomy k i with c | c | c
 ·rw [hg.old' i k c]; exact regE rfl rfl
 ·subst c; rw [hg.at']; exact hgs
 ·rw [hg.new' i k c]; exact regE rfl rfl
set_option maxHeartbeats 16000000 in
theorem load_ok {n m : Nat} {G : Nat → Nat → Rat} (hn : n ≤ 64) (hm : m ≤ 64) (hq : ∀ i j, i < n → j < m → qlen (G i j) ≤ KD) : FnOK Tryz.prog true 166 [.g (matL n m G)] (.c (rowsC n m G)) := by
 obtain ⟨F, C, hg⟩ := grd m G
 have hnm : ∀ i, i ≤ n → (i : Int) * (m : Int) = ((i * m : Nat) : Int) ∧ i * m ≤ 4096 := fun i hi => ⟨by rw [Int.natCast_mul], Nat.le_trans (Nat.mul_le_mul (show i ≤ 64 by omega) hm) (by decide)⟩
 have n1 : ∀ i j, i < n → j < m → FnOK Tryz.prog true 134 [.g (nq (G (((i : Int) * (m : Int) + (j : Int)).toNat / m) (((i : Int) * (m : Int) + (j : Int)).toNat % m)))] (.g (nq (G i j))) := fun i j hi hj => by
  have e1 := (hnm i (by omega)).1
  obtain ⟨_, e2, e3⟩ := mat_idx hi hj
  rw [show ((i : Int) * (m : Int) + (j : Int)).toNat = i * m + j by rw [e1]; omega, e2, e3]
  have := qnormal_ok (q := ofR (G i j)) (ofR_fit (hq i j hi hj)) (by decide)
  rwa [ofR_val] at this
 clear hq
 refine fn_okS (E := E1) E1_ok Tryz.func166 rfl (by kernel_rfl) ?_
 refine swp_seq0 E1_ok mixed (by kernel_rfl) ?_
 conv => whnf
 refine swp_seq0 E1_ok mixed (by kernel_rfl) ?_
 conv => whnf
 refine ⟨by omega, Int.le_refl _, by omega, by show (24 : Int) * (n : Int) ≤ 281474976710656; omega, ?_⟩
 conv => whnf
 refine swp_seqS ?_
 refine swp_seq0 E1_ok mixed (by kernel_rfl) ?_
 conv => whnf
 refine swp_block ?_
 refine swp_loop (fun i : Nat => gst [(1, .c (.p 0 0 3 0 0)), (3, .c (.gs 1 0)), (10, .c (.int .i64 n)), (11, .c (.int .i64 i))] [⟨88, 3, 1, boxF (matL n m G)⟩, gGrid n (F i)]) (fun i => n - i) (fun i => i ≤ n) 0 ?_ (Nat.zero_le _) fun i hi => ?_
 ·refine Weak.gen [some 0, some 1] rfl ⟨boxK rfl rfl, ⟨_, rfl, rfl, rfl, by show Int.toNat n = n; omega, rfl, fun k j hk hj => ?_⟩, trivial⟩ ⟨⟨_, rfl, rfl, rfl⟩, ⟨_, rfl, rfl, rfl⟩, ⟨_, rfl, by show (Int.toNat n : Int) = n; omega⟩, ⟨_, rfl, rfl⟩, trivial⟩
  obtain rfl := Nat.lt_one_iff.1 hj
  show regC 0 _ _ (F 0 k) _
  rw [hg.new 0 k (Nat.zero_le k)]
  exact ⟨rfl, rfl⟩
 have n1 := n1 i
 obtain ⟨e1, e2⟩ := hnm i hi
 have e3 := fun (a : i < n) (j : Nat) (b : j < m) => (mat_idx a b).1
 refine swp_seq0 E1_ok mixed (by kernel_rfl) ?_
 conv => whnf
 refine swp_seq0 E1_ok mixed (by kernel_rfl) ?_
 conv => whnf
 refine bcase (fun (h : decide ((i : Int) < n) = true) => ?_) fun (h : decide ((i : Int) < n) = false) => ?_
 ·have h := of_decide_eq_true h
  conv => whnf
  refine swp_seqS (swp_block ?_)
  refine swp_seq0 E1_ok mixed (by kernel_rfl) ?_
  conv => whnf
  refine swp_seq E1_ok mixed (by kernel_rfl) ?_
  conv => whnf
  refine ⟨by omega, Int.le_refl _, by omega, by show (64 : Int) * (m : Int) ≤ 281474976710656; omega, ?_⟩
  conv => whnf
  refine ⟨by omega, by show (i : Int) < (n : Int); omega, ?_⟩
  conv => whnf
  refine ⟨gst [(1, .c (.p 0 0 3 0 0)), (3, .c (.gs 1 0)), (4, .c (.int .i64 i)), (10, .c (.int .i64 n)), (11, .c (.int .i64 i))] [⟨88, 3, 1, boxF (matL n m G)⟩, gGrid n (C i), gqr m (rmid (G i) 0)], Weak.gen [some 0, some 1, some 2] rfl ⟨boxK rfl rfl, ⟨_, rfl, rfl, rfl, rfl, rfl, fun k j hk hj => ?_⟩, ⟨_, rfl, rfl, rfl, by show Int.toNat m = m; omega, rfl, fun k j hk hj => ?_⟩, trivial⟩ ⟨⟨_, rfl, rfl, rfl⟩, ⟨_, rfl, rfl, rfl⟩, ⟨_, rfl, rfl⟩, ⟨_, rfl, rfl⟩, ⟨_, rfl, rfl⟩, trivial⟩, ?_⟩
  ·obtain rfl := Nat.lt_one_iff.1 hj
   show regC 0 _ _ (C i k) fun z => updF (fun k _ => F i k) i 0 [.gs 2 0] k 0 = z
   rcases Nat.lt_trichotomy k i with c | c | c
   ·rw [hg.old' i k c, show updF (fun k _ => F i k) i 0 [.gs 2 0] k 0 = nql m (G k) from (if_neg (fun h => by have := h.1; omega)).trans (hg.old i k c)]
    exact regE rfl rfl
   ·subst c
    rw [hg.at', show updF (fun j _ => F k j) k 0 [.gs 2 0] k 0 = .gs 2 0 from if_pos ⟨rfl, Nat.le_refl 0, by decide⟩]
    exact ⟨_, rfl, rfl, rfl⟩
   ·rw [hg.new' i k c, show updF (fun k _ => F i k) i 0 [.gs 2 0] k 0 = .nil from (if_neg (fun h => by have := h.1; omega)).trans (hg.new i k (by omega))]
    exact ⟨rfl, rfl⟩
  ·show regC 0 _ _ (qlF (rmid (G i) 0) k j) _
   rw [rmid_zero]
   match j, hj with
   | 0, _ => exact ⟨_, rfl, rfl⟩
   | 1, _ => exact .inr (.inl ⟨rfl, rfl⟩)
   | 2, _ => exact ⟨_, rfl, rfl⟩
   | 3, _ => exact .inr (.inl ⟨rfl, rfl⟩)
  have hCi : C i (i : Int).toNat = .gs 2 0 := hg.at' i
  refine swp_seq E1_ok mixed (by kernel_rfl) ?_
  conv => whnf
  refine ⟨by omega, by show (i : Int) < (n : Int); omega, ?_⟩
  conv => whnf
  conv =>
   pattern lenA _ _
   change lenA _ (V.c (C i (i : Int).toNat))
   rw [hCi]
  conv => whnf
  refine ⟨gst [(1, .c (.p 0 0 3 0 0)), (3, .c (.gs 1 0)), (4, .c (.int .i64 i)), (10, .c (.int .i64 n)), (11, .c (.int .i64 i)), (24, .c (.int .i64 m)), (25, .c (.int .i64 0))] [⟨88, 3, 1, boxF (matL n m G)⟩, gGrid n (C i), gqr m (rmid (G i) 0)], Weak.gen [some 0, some 1, some 2] rfl ⟨boxK rfl rfl, ⟨_, rfl, rfl, rfl, rfl, rfl, fun k j hk hj => cell_keep hg k ⟨_, rfl, rfl, rfl⟩ rfl⟩, ⟨_, rfl, rfl, rfl, rfl, rfl, fun k j hk hj => regE rfl (ql_clos (c := rmid (G i) 0) k j)⟩, trivial⟩ ⟨⟨_, rfl, rfl, rfl⟩, ⟨_, rfl, rfl, rfl⟩, ⟨_, rfl, rfl⟩, ⟨_, rfl, rfl⟩, ⟨_, rfl, rfl⟩, ⟨_, rfl, rfl⟩, ⟨_, rfl, rfl⟩, trivial⟩, ?_⟩
  refine swp_of E1_ok mixed (by kernel_rfl) ?_
  conv => whnf
  refine loop_ints (fun j : Nat => gst [(1, .c (.p 0 0 3 0 0)), (3, .c (.gs 1 0)), (4, .c (.int .i64 i)), (10, .c (.int .i64 n)), (11, .c (.int .i64 i)), (24, .c (.int .i64 m)), (25, .c (.int .i64 j))] [⟨88, 3, 1, boxF (matL n m G)⟩, gGrid n (C i), gqr m (rmid (G i) j)]) (fun j => m - j) (fun j => j ≤ m) 0 rfl (Weak.gen [some 0, some 1, some 2] rfl ⟨boxK rfl rfl, ⟨_, rfl, rfl, rfl, rfl, rfl, fun k j hk hj => cell_keep hg k ⟨_, rfl, rfl, rfl⟩ rfl⟩, ⟨_, rfl, rfl, rfl, rfl, rfl, fun k j hk hj => regE rfl (ql_clos (c := rmid (G i) 0) k j)⟩, trivial⟩ ⟨⟨_, rfl, rfl, rfl⟩, ⟨_, rfl, rfl, rfl⟩, ⟨_, rfl, rfl⟩, ⟨_, rfl, rfl⟩, ⟨_, rfl, rfl⟩, ⟨_, rfl, rfl⟩, ⟨_, rfl, rfl⟩, trivial⟩) (Nat.zero_le _) fun j hj => ?_
  have n1 := fun a => n1 j (by omega) a
  have e3 := fun a => e3 (by omega) j a
  conv => whnf
  refine bcase (fun (h1 : decide ((j : Int) < m) = true) => ?_) fun (h1 : decide ((j : Int) < m) = false) => ?_
  ·have h1 := of_decide_eq_true h1
   have n1 := n1 (by omega)
   have e3 := e3 (by omega)
   conv => whnf
   refine ⟨by omega, by show (i : Int) < (n : Int); omega, ?_⟩
   conv => whnf
   refine ⟨i64 (by rw [e1]; omega) (by rw [e1]; omega), ?_⟩
   conv => whnf
   refine ⟨i64 (by rw [e1]; omega) (by rw [e1]; omega), ?_⟩
   conv => whnf
   refine ⟨by rw [e1]; omega, by show (i : Int) * (m : Int) + (j : Int) < ((n * m : Nat) : Int); rw [e1]; omega, ?_⟩
   conv => whnf
   refine ⟨_, n1, ?_⟩
   conv => whnf
   refine ⟨by omega, ?_⟩
   conv =>
    pattern St.ev _ (Operand.tmp 31)
    change V.c (C i (i : Int).toNat)
    rw [hCi]
   conv => whnf
   refine ⟨by show (j : Int) < (m : Int); omega, ?_⟩
   conv => whnf
   refine ⟨i64 (by omega) (by omega), ?_⟩
   conv => whnf
   refine ⟨j + 1, by omega, Weak.gen [some 0, some 1, some 2] rfl ⟨boxK rfl rfl, ⟨_, rfl, rfl, rfl, rfl, rfl, fun k j hk hj => cell_keep hg k ⟨_, rfl, rfl, rfl⟩ rfl⟩, ⟨_, rfl, rfl, rfl, rfl, rfl, fun a b ha hb => regE ?_ (ql_clos (c := rmid (G i) (j + 1)) a b)⟩, trivial⟩ ⟨⟨_, rfl, rfl, rfl⟩, ⟨_, rfl, rfl, rfl⟩, ⟨_, rfl, rfl⟩, ⟨_, rfl, rfl⟩, ⟨_, rfl, rfl⟩, ⟨_, rfl, rfl⟩, ⟨_, rfl, rfl⟩, trivial⟩, by omega⟩
   exact updG (sz := 4) (g := fun k => rr (rmid (G i) j k)) (g' := fun k => rr (rmid (G i) (j + 1) k)) (l := nq (G i j)) rfl hb (rmid_next (G i) j a)
  ·have h1 := of_decide_eq_false h1
   have ej : j = m := by omega
   conv => whnf
   refine swp_of E1_ok mixed (by kernel_rfl) ?_
   conv => whnf
   refine ⟨i64 (by omega) (by omega), ?_⟩
   conv => whnf
   refine ⟨i + 1, by omega, Weak.gen [some 0, some 1] rfl ⟨boxK rfl rfl, ⟨_, rfl, rfl, rfl, rfl, rfl, fun k l hk hl => ?_⟩, trivial⟩ ⟨⟨_, rfl, rfl, rfl⟩, ⟨_, rfl, rfl, rfl⟩, ⟨_, rfl, rfl⟩, ⟨_, rfl, rfl⟩, trivial⟩, by omega⟩
   obtain rfl := Nat.lt_one_iff.1 hl
   show regC 0 _ _ (F (i + 1) k) fun z => C i k = z
   rcases Nat.lt_trichotomy k i with c | c | c
   ·rw [hg.old (i + 1) k (by omega), hg.old' i k c]
    exact regE rfl rfl
   ·subst c
    rw [hg.old (k + 1) k (by omega), hg.at']
    exact .inr (.inr ⟨2, _, rfl, rfl, rfl, rfl, Nat.zero_le _, rfl, rfl, fun a b ha hb => ⟨qlF_eq (c := rmid (G k) j) (e := fun a => ofR (G k a)) (i := a) (k := a) (rmid_all (by omega)), ql_clos (c := fun a => ofR (G k a)) a b⟩⟩)
   ·rw [hg.new (i + 1) k (by omega), hg.new' i k c]
    exact ⟨rfl, rfl⟩
 ·have h := of_decide_eq_false h
  have e : i = n := by omega
  conv => whnf
  have g : Sub (.c (.row 1 n fun k _ => F i k)) (.c (rowsC n m G)) := subRowG rfl fun k j hk hj => hg.old i k (by omega)
  refine swp_of E1_ok mixed (by kernel_rfl) ?_
  conv => whnf
  refine ⟨fun a b ha hb => by show (F i a).clos = true; rw [hg.old i a (Nat.lt_of_lt_of_le ha (show n ≤ i by omega))]; rfl, ?_⟩
  conv => whnf
  exact ⟨rfl, g⟩
end Rf
end Go.Proofs.YtmbejakmeijcbaaGreat
/- Matrices in the program: from rows; the matrix of a multiplication. -/
namespace Go.Proofs.YtmbejakmeijcbaaGreat
open Go.RowKit
namespace Rf
set_option maxHeartbeats 4000000 in
theorem fits_yes {n : Nat} (hn : n ≤ 1024) : FnOK Tryz.prog true 164 [.c (.int .i64 n)] (.c (.bool true)) := by
 refine fn_ok (E := E1) E1_ok Tryz.func164 rfl mixed (by kernel_rfl) (by kernel_rfl) ?_
 conv => whnf
 exact ⟨rfl, sub_bool (decide_eq_true (by omega))⟩
set_option maxHeartbeats 8000000 in
theorem fromRows_ok {n m : Nat} {G : Nat → Nat → Rat} (hn : n ≤ 64) (hm : m ≤ 64) (hq : ∀ i j, i < n → j < m → qlen (G i j) ≤ KD) : FnOK Tryz.prog true 131 [.c (.int .i64 m), .c (rowsC n m G)] (.t2 (.g (matL n m G)) (.c (.int .i64 0))) := by
 have f1 := fits_yes (n := m) (by omega)
 have f2 := fits_yes (n := n) (by omega)
 have l0 := load_ok hn hm hq
 have s0 := store_ok (G := G) hn hm
 have hnm : ∀ i, i ≤ n → i * m ≤ 4096 := fun i hi => Nat.le_trans (Nat.mul_le_mul (show i ≤ 64 by omega) hm) (by decide)
 have l1 : ∀ i, i = n → FnOK Tryz.prog true 166 [.g [.int .i64 n, .int .i64 m, .row 4 (i * m) (qlF fun k => ofR (G (k / m) (k % m)))]] (.c (rowsC n m G)) := fun i e => by rw [e]; exact l0
 clear hq l0
 refine fn_ok (E := E1) E1_ok Tryz.func131 rfl mixed (by kernel_rfl) (by kernel_rfl) ?_
 conv => whnf
 refine ⟨_, f1, ?_⟩
 conv => whnf
 refine ⟨_, f2, ?_⟩
 conv => whnf
 refine loop_ints (fun i : Nat => gst [(0, .c (.int .i64 m)), (4, .c (.p 0 0 3 0 0)), (6, .c (.p 1 0 3 0 0)), (23, .c (rowsC n m G)), (24, .c (.int .i64 n)), (25, .c (.int .i64 i))] [⟨88, 3, 1, boxF [.int .i64 0, .int .i64 0, .nil]⟩, ⟨88, 3, 1, boxF [.int .i64 n, .int .i64 m, .gs 2 0]⟩, gqr (i * m) fun k => ofR (G (k / m) (k % m))]) (fun i => n - i) (fun i => i ≤ n) 0 rfl ?_ (Nat.zero_le _) fun i hi => ?_
 ·refine Weak.gen [some 0, some 1, none] rfl ⟨boxK rfl rfl, ⟨_, rfl, rfl, rfl, rfl, rfl, fun a b ha hb => by
   obtain rfl := Nat.lt_one_iff.1 ha
   match b, hb with
   | 0, _ => exact ⟨_, rfl, rfl⟩
   | 1, _ => exact ⟨_, rfl, rfl⟩
   | 2, _ => exact rfl⟩, Nat.zero_mul m, trivial⟩ ⟨⟨_, rfl, rfl⟩, ⟨_, rfl, rfl, rfl⟩, ⟨_, rfl, rfl, rfl⟩, .inl ⟨_, _, rfl, rfl, fun _ _ _ _ => rfl⟩, ⟨_, rfl, rfl⟩, ⟨_, rfl, rfl⟩, trivial⟩
 have e1 := hnm i hi
 conv => whnf
 refine bcase (fun (h : decide ((i : Int) < n) = true) => ?_) fun (h : decide ((i : Int) < n) = false) => ?_
 ·have h := of_decide_eq_true h
  have hin : i < n := by omega
  conv => whnf
  refine ⟨by omega, by omega, ?_⟩
  conv => whnf
  refine bneg (show (!decide ((m : Int) = m)) = false by simp) ?_
  conv => whnf
  refine ⟨by show i * m + m ≤ 16777216; omega, fun a b ha hb => one_ql (c := fun k => ofR (G i k)) _ a b hb, ?_⟩
  conv => whnf
  refine ⟨i64 (by omega) (by omega), ?_⟩
  conv => whnf
  exact ⟨i + 1, by omega, Weak.gen [some 0, some 1, some 2] rfl ⟨boxK rfl rfl, ⟨_, rfl, rfl, rfl, rfl, rfl, fun a b ha hb => by
   obtain rfl := Nat.lt_one_iff.1 ha
   match b, hb with
   | 0, _ => exact ⟨_, rfl, rfl⟩
   | 1, _ => exact ⟨_, rfl, rfl⟩
   | 2, _ => exact ⟨_, rfl, rfl, rfl⟩⟩, ⟨_, rfl, rfl, rfl, (Nat.succ_mul i m).symm, rfl, fun a b ha hb => regE (row_in hin (by have ha : a < (i + 1) * m := ha; rwa [Nat.succ_mul] at ha)) (ql_clos (c := fun k => ofR (G (k / m) (k % m))) a b)⟩, trivial⟩ ⟨⟨_, rfl, rfl⟩, ⟨_, rfl, rfl, rfl⟩, ⟨_, rfl, rfl, rfl⟩, .inl ⟨_, _, rfl, rfl, fun _ _ _ _ => rfl⟩, ⟨_, rfl, rfl⟩, ⟨_, rfl, rfl⟩, trivial⟩, by omega⟩
 ·have h := of_decide_eq_false h
  have g := l1 i (by omega)
  conv => whnf
  refine ⟨fun a b _ _ => ql_clos (c := fun k => ofR (G (k / m) (k % m))) a b, ?_⟩
  conv => whnf
  refine ⟨_, g, ?_⟩
  conv => whnf
  refine ⟨_, s0, ?_⟩
  conv => whnf
  exact ⟨rfl, Sub.refl _⟩
set_option maxHeartbeats 8000000 in
theorem rmult_ok {d N tg : Nat} {f g : Nat → Rat} {q : Nat → RawR} {a : Nat → Nat → Rat} (hd : d ≤ 12) (h0 : FnOK Tryz.prog true 108 [ringP d f, .c (ql N q)] (.c (nql (Q.tq (a 0) d) (a 0)))) (hg : FnOK Tryz.prog true 130 [ringP d f] (.c (nql tg g)))
  (hc : ∀ i, i < d → FnOK Tryz.prog true 128 [ringP d f, .c (nql (Q.tq (a i) d) (a i))] (.c (nql d (a i)))) (hm : ∀ i, i < d → FnOK Tryz.prog true 129 [ringP d f, .c (nql (Q.tq (a i) d) (a i)), .c (nql tg g)] (.c (nql (Q.tq (a (i + 1)) d) (a (i + 1)))))
  (hF : FnOK Tryz.prog true 131 [.c (.int .i64 d), .c (rowsC d d a)] (.t2 (.g (matL d d a)) (.c (.int .i64 0)))) : FnOK Tryz.prog true 90 [ringP d f, .c (ql N q)] (.g (matL d d a)) := by
 have hF' : ∀ i, i = d → FnOK Tryz.prog true 131 [.c (.int .i64 (((d + 1 : Nat) : Int) - 1)), .c (.row 1 i fun k _ => nql d (a k))] (.t2 (.g (matL d d a)) (.c (.int .i64 0))) := fun i e => by
  rw [e, show ((d + 1 : Nat) : Int) - 1 = (d : Int) by omega]
  exact hF
 clear hF
 refine fn_ok (E := E1) E1_ok Tryz.func90 rfl mixed (by kernel_rfl) (by kernel_rfl) ?_
 conv => whnf
 refine ⟨_, h0, ?_⟩
 conv => whnf
 refine loop_ints (fun i : Nat => gst [(0, ringP d f), (4, .c (.p 0 0 3 0 0)), (5, .c (.gs 1 0)), (6, .c (nql (Q.tq (a i) d) (a i))), (15, .c (.int .i64 (((d + 1 : Nat) : Int) - 1))), (16, .c (.int .i64 i))] [⟨88, 3, 1, boxF [.int .i64 0, .int .i64 0, .nil]⟩, ⟨24, 1, i, fun k _ => nql d (a k)⟩]) (fun i => d - i) (fun i => i ≤ d) 0 rfl (Weak.gen [some 0, none] rfl ⟨boxK rfl rfl, rfl, trivial⟩ ⟨⟨rfl, rfl⟩, ⟨_, rfl, rfl, rfl⟩, rfl, .inl ⟨_, _, rfl, rfl, fun _ _ _ _ => rfl⟩, ⟨_, rfl, rfl⟩, ⟨_, rfl, rfl⟩, trivial⟩) (Nat.zero_le _) fun i hi => ?_
 have hc := hc i
 have hm := hm i
 have hF' := hF' i
 conv => whnf
 refine bcase (fun (h : decide ((i : Int) < ((d + 1 : Nat) : Int) - 1) = true) => ?_) fun (h : decide ((i : Int) < ((d + 1 : Nat) : Int) - 1) = false) => ?_
 ·have h := of_decide_eq_true h
  have hc := hc (by omega)
  have hm := hm (by omega)
  conv => whnf
  refine ⟨_, hc, ?_⟩
  conv => whnf
  refine ⟨by show i + 1 ≤ 16777216; omega, fun a b ha hb => ?_, ?_⟩
  ·match a, b, ha, hb with
   | 0, 0, _, _ => exact ⟨rfl, fun _ => rfl⟩
  conv => whnf
  refine ⟨_, hg, ?_⟩
  conv => whnf
  refine ⟨_, hm, ?_⟩
  conv => whnf
  refine ⟨i64 (by omega) (by omega), ?_⟩
  conv => whnf
  exact ⟨i + 1, by omega, Weak.gen [some 0, some 1] rfl ⟨boxK rfl rfl, ⟨_, rfl, rfl, rfl, rfl, rfl, fun k b ha hb => regApp (t := fun k => nql d (a k)) ha hb (fun _ => regE rfl rfl) (regE rfl rfl)⟩, trivial⟩ ⟨⟨rfl, rfl⟩, ⟨_, rfl, rfl, rfl⟩, ⟨_, rfl, rfl, rfl⟩, .inl ⟨_, _, rfl, rfl, fun _ _ _ _ => rfl⟩, ⟨_, rfl, rfl⟩, ⟨_, rfl, rfl⟩, trivial⟩, by omega⟩
 ·have h := of_decide_eq_false h
  have hF' := hF' (by omega)
  conv => whnf
  refine ⟨fun _ _ _ _ => rfl, ?_⟩
  conv => whnf
  refine ⟨_, hF', ?_⟩
  conv => whnf
  exact ⟨rfl, Sub.refl _⟩
set_option maxHeartbeats 4000000 in
theorem nMult_ok {n d N : Nat} {c : Nat → RawZ} {f : Nat → Rat} {q : Nat → RawR} {a : Nat → Nat → Rat} (ho : FnOK Tryz.prog true 89 [.g [zl n c]] (.t2 (ringP d f) (.c (.int .i64 0)))) (hr : FnOK Tryz.prog true 90 [ringP d f, .c (ql N q)] (.g (matL d d a))) : FnOK Tryz.prog true 58 [.g [zl n c], .c (ql N q)] (.t2 (.g (matL d d a)) (.c (.int .i64 0))) := by
 refine fn_ok (E := E1) E1_ok Tryz.func58 rfl mixed (by kernel_rfl) (by kernel_rfl) ?_
 conv => whnf
 refine ⟨_, ho, ?_⟩
 conv => whnf
 refine ⟨_, hr, ?_⟩
 conv => whnf
 exact ⟨rfl, Sub.refl _⟩
end Rf
end Go.Proofs.YtmbejakmeijcbaaGreat
/- Matrices in the program, whatever fractions their elements are: rows loaded. -/
namespace Go.Proofs.YtmbejakmeijcbaaGreat
open Go.RowKit
namespace Rf
end Rf
end Go.Proofs.YtmbejakmeijcbaaGreat
/- Matrices in the program, whatever fractions their elements are: products. -/
namespace Go.Proofs.YtmbejakmeijcbaaGreat
open Go.RowKit
namespace Rf
end Rf
end Go.Proofs.YtmbejakmeijcbaaGreat
/- Matrices in the program, whatever fractions their elements are: sums, multiples. -/
namespace Go.Proofs.YtmbejakmeijcbaaGreat
open Go.RowKit
namespace Rf
end Rf
end Go.Proofs.YtmbejakmeijcbaaGreat
/- Number fields: sums, products and matrices of multiplications of bounded elements. -/
namespace Go.Proofs.YtmbejakmeijcbaaGreat
open Go.RowKit
namespace Rf
structure Ev (N : Nat) (q : Nat → RawR) (A : Nat → Rat) (D e : Nat) : Prop where
 val : Q.qx N (fun i => (q i).val) = A
 len : N ≤ 32
 fit : ∀ i, i < N → (q i).Fit KD
 bd : ∀ k, Bd D (2 ^ e) (A k)
structure Fk (n : Nat) (c : Nat → RawZ) (d : Nat) (f : Nat → Rat) : Prop where
 opn : FnOK Tryz.prog true 89 [.g [zl n c]] (.t2 (ringP d f) (.c (.int .i64 0)))
 fd : Fd d 255 f
theorem pow_B (L : Nat) : Dg.B ^ L = 2 ^ (32 * L) := (Nat.pow_mul 2 32 L).symm
theorem pow_lt_B {e L : Nat} (h : e < 32 * L) : 2 ^ e < Dg.B ^ L := by
 rw [pow_B]
 exact Nat.pow_lt_pow_right (by decide) h
theorem two_lt {e : Nat} (h : e ≤ 1000000) : 2 ^ e < Dg.B ^ KD := pow_lt_B (L := KD) (by show e < 32 * 1048576; omega)
theorem le_lim {D : Nat} (h : D ≤ 2 ^ 1000000) : D < Dg.B ^ KD := Nat.lt_of_le_of_lt h (two_lt (e := 1000000) (Nat.le_refl _))
theorem one_le_pow2 (e : Nat) : 1 ≤ 2 ^ e := Nat.one_le_two_pow
theorem pow_c (a n : Nat) : 2 ^ a * (1 + 255) ^ n = 2 ^ (a + 8 * n) := by
 rw [show (1 + 255 : Nat) = 2 ^ 8 from rfl, ← Nat.pow_mul, ← Nat.pow_add]
theorem Ev.fin {N : Nat} {q : Nat → RawR} {A : Nat → Rat} {D e : Nat} (h : Ev N q A D e) : Q.Fin N A := by
 rw [← h.val]; exact Q.qx_fin _ _
theorem ev_n {d D e : Nat} {r : Nat → Rat} (hr : Q.Fin d r) (hd : d ≤ 12) (hb : ∀ k, Bd D (2 ^ e) (r k)) (h0 : 0 < D) (hD : D ≤ 2 ^ 1000000) (he : e ≤ 1000000) : Ev (Q.tq r d) (fun i => ofR (r i)) r D e :=
 ⟨by
  rw [show (fun i => (ofR (r i)).val) = r from funext fun i => ofR_val _]
  exact Q.qx_self (Q.tq_fin hr), by have := Q.tq_le r d; omega, fun i _ => ofR_fit (bd_fit (hb i) h0 (le_lim hD) (two_lt he)), hb⟩
theorem nAdd_e {n d N M D e : Nat} {c : Nat → RawZ} {f A B : Nat → Rat} {q p : Nat → RawR} (hk : Fk n c d f) (hA : Ev N q A D e) (hB : Ev M p B D e) (h0 : 0 < D) (hD : D ≤ 2 ^ 1000000) (he : e ≤ 100000) : ∃ r, Q.Rm d f (fun k => A k + B k) r ∧ Ev (Q.tq r d) (fun i => ofR (r i)) r D (e + 513) ∧ FnOK Tryz.prog true 87 [.g [zl n c], .c (ql N q), .c (ql M p)] (.t2 (.c (nql (Q.tq r d) r)) (.c (.int .i64 0))) := by
 have hw : (2 ^ e + 2 ^ e) * (1 + 255) ^ 64 = 2 ^ (e + 513) := by
  rw [← Nat.two_mul, ← Nat.pow_succ', pow_c]
 have hD' := le_lim hD
 obtain ⟨r, r1, r2, r3⟩ := radd_ok hk.fd hA.val hB.val hA.len hB.len hA.fit hB.fit h0 hD' hA.bd hB.bd (by rw [hw]; exact two_lt (by omega))
 rw [hw] at r2
 exact ⟨r, r1, ev_n r1.1 hk.fd.low r2 h0 hD (by omega), nAdd_ok hk.opn r3⟩
theorem two_mul_le {D D' a b : Nat} (h : D ≤ 2 ^ a) (h' : D' ≤ 2 ^ b) : D * D' ≤ 2 ^ (a + b) := by
 rw [Nat.pow_add]
 exact Nat.mul_le_mul h h'
theorem pow_m (a b : Nat) : 32 * (2 ^ a * 2 ^ b) * (1 + 255) ^ 64 = 2 ^ (a + b + 517) := by
 rw [← Nat.pow_add, show 32 * 2 ^ (a + b) = 2 ^ (a + b + 5) by rw [Nat.pow_add 2 (a + b) 5, Nat.mul_comm], pow_c]
noncomputable def mrow (d : Nat) (f A : Nat → Rat) : Nat → Nat → Rat
 | 0 => Q.red d f A
 | i + 1 => Q.red d f (Q.cf (mrow d f A i) (Q.red d f (Q.xp 1)))
theorem mrow_rm {d N : Nat} {f A : Nat → Rat} (hf : Q.Mon d f) (hA : Q.Fin N A) : Q.Rws d f A (Q.red d f (Q.xp 1)) (mrow d f A) := by
 have hg := Q.red_rm hf (Q.xp_fin 1)
 have h0 := Q.red_rm hf hA
 have hfin : ∀ i, Q.Fin d (mrow d f A i) := fun i => by
  induction i with
  | zero => exact h0.1
  | succ i ih => exact (Q.red_rm hf (ih.cf hg.1)).1
 exact ⟨h0, fun i => Q.red_rm hf ((hfin i).cf hg.1)⟩
theorem nMult_e {n d N D e : Nat} {c : Nat → RawZ} {f A : Nat → Rat} {q : Nat → RawR} (hk : Fk n c d f) (hA : Ev N q A D e) (h0 : 0 < D) (hD : D ≤ 2 ^ 1000000) (he : e ≤ 50000) : (∀ i k, i ≤ d → Bd D (2 ^ (e + 256 + 533 * i)) (mrow d f A i k)) ∧ FnOK Tryz.prog true 58 [.g [zl n c], .c (ql N q)] (.t2 (.g (matL d d (mrow d f A))) (.c (.int .i64 0))) := by
 have hlow := hk.fd.low
 have hmon := hk.fd.mon
 have hD' := le_lim hD
 have hlen := hA.len
 have hb0 : 2 ^ e * (1 + 255) ^ N ≤ 2 ^ (e + 256) := by
  rw [pow_c]
  exact Nat.pow_le_pow_right (by decide) (by omega)
 obtain ⟨r, r1, r2, r3⟩ := rnormal_ok hk.fd hA.val (by omega) hA.fit h0 hD' hA.bd (Nat.lt_of_le_of_lt hb0 (two_lt (by omega)))
 have hr := Q.red_of hmon r1
 obtain ⟨g1, g2⟩ := rgen_ok hk.fd (by rw [show (1 + 255) ^ 2 = 2 ^ 16 from rfl]; exact two_lt (by decide))
 rw [show (1 + 255) ^ 2 = 2 ^ 16 from rfl] at g1
 have hg := Q.red_rm hmon (Q.xp_fin 1)
 have evg : Ev (Q.tq (Q.red d f (Q.xp 1)) d) (fun i => ofR (Q.red d f (Q.xp 1) i)) (Q.red d f (Q.xp 1)) 1 16 := ev_n hg.1 hlow g1 (by decide) (one_le_pow2 1000000) (by decide)
 have hw := mrow_rm hmon hA.fin
 have key : ∀ i, i ≤ 12 → Ev (Q.tq (mrow d f A i) d) (fun k => ofR (mrow d f A i k)) (mrow d f A i) D (e + 256 + 533 * i) := fun i => by
  induction i with
  | zero =>
   intro _
   have e1 : mrow d f A 0 = r := hr.symm
   rw [e1]
   exact ev_n r1.1 hlow (fun k => (r2 k).mono hb0) h0 hD (by omega)
  | succ i ih =>
   intro hi
   have ih := ih (by omega)
   obtain ⟨s, s1, s2, _⟩ := rmul_ok hk.fd ih.val evg.val ih.len evg.len ih.fit evg.fit h0 (by decide) (by rw [Nat.mul_one]; exact hD') ih.bd evg.bd (by rw [pow_m]; exact two_lt (by omega))
   have e1 : s = mrow d f A (i + 1) := Q.red_of hmon s1
   rw [pow_m, Nat.mul_one, show e + 256 + 533 * i + 16 + 517 = e + 256 + 533 * (i + 1) by omega, e1] at s2
   exact ev_n (hw.next i).1 hlow s2 h0 hD (by omega)
 have step : ∀ i, i < d → FnOK Tryz.prog true 129 [ringP d f, .c (nql (Q.tq (mrow d f A i) d) (mrow d f A i)), .c (nql (Q.tq (Q.red d f (Q.xp 1)) d) (Q.red d f (Q.xp 1)))] (.c (nql (Q.tq (mrow d f A (i + 1)) d) (mrow d f A (i + 1)))) := fun i hi => by
  have ih := key i (by omega)
  obtain ⟨s, s1, _, s3⟩ := rmul_ok hk.fd ih.val evg.val ih.len evg.len ih.fit evg.fit h0 (by decide) (by rw [Nat.mul_one]; exact hD') ih.bd evg.bd (by rw [pow_m]; exact two_lt (by omega))
  have e1 : s = mrow d f A (i + 1) := Q.red_of hmon s1
  rw [e1] at s3
  exact s3
 have bds : ∀ i k, i ≤ d → Bd D (2 ^ (e + 256 + 533 * i)) (mrow d f A i k) := fun i k hi => (key i (by omega)).bd k
 refine ⟨bds, nMult_ok hk.opn (rmult_ok hlow (by
  have e1 : r = mrow d f A 0 := hr
  rw [← e1]
  exact r3) g2 (fun i hi => rcoord_ok (Q.tq_fin ?_) (Q.tq_le _ _) hlow) step (fromRows_ok (by omega) (by omega) fun i j hi hj => bd_fit (bds i j (by omega)) h0 hD' (two_lt (by omega))))⟩
 match i with
 | 0 => exact hw.first.1
 | i + 1 => exact (hw.next i).1
end Rf
end Go.Proofs.YtmbejakmeijcbaaGreat
/- The law's test of a field: its list short, well-formed, of small degree and small coefficients. -/
namespace Go.Proofs.YtmbejakmeijcbaaGreat
open Go.RowKit
namespace Rf
end Rf
end Go.Proofs.YtmbejakmeijcbaaGreat
/- The law NumfieldField: its calls, one behind the other, and what they hand back. -/
namespace Go.Proofs.YtmbejakmeijcbaaGreat
open Go.RowKit
theorem su_bd {D B : Nat} {f : Nat → Rat} (h : ∀ i, Bd D B (f i)) : ∀ n, Bd D (n * B) (Q.su f n)
 | 0 => Bd.zero _ _
 | n + 1 => by
  rw [Nat.add_mul, Nat.one_mul]
  exact (su_bd h n).add (h n)
namespace Rf
theorem pow_le2 {a b : Nat} (h : a ≤ b) : 2 ^ a ≤ 2 ^ b := Nat.pow_le_pow_right (by decide) h
theorem le_pow {D a b : Nat} (h : D ≤ 2 ^ a) (e : a ≤ b) : D ≤ 2 ^ b := Nat.le_trans h (pow_le2 e)
theorem mul_le_pow {D E a b c : Nat} (h : D ≤ 2 ^ a) (h' : E ≤ 2 ^ b) (e : a + b = c) : D * E ≤ 2 ^ c := e ▸ two_mul_le h h'
theorem bd_doc {D e : Nat} {x : Rat} (h : Bd D (2 ^ e) x) (h0 : 0 < D) (hD : D ≤ 2 ^ 100000) (he : e ≤ 1000000) : qlen x ≤ 65535 :=
 h.len h0 (Nat.lt_of_le_of_lt hD (pow_lt_B (e := 100000) (L := 65535) (by decide))) (pow_lt_B (e := e) (L := 65535) (by omega)) (by decide)
end Rf
end Go.Proofs.YtmbejakmeijcbaaGreat
/- Substitutions x -> x^t from one quotient by a monic polynomial into another. No condition. -/
namespace Go.Proofs.YtmbejakmeijcbaaGreat
namespace Q
def sb (t m : Nat) (A : Nat → Rat) (j : Nat) : Rat := su (fun i => A i * xp (i * t) j) m
theorem cf_zero_left (G : Nat → Rat) (k : Nat) : cf (fun _ => 0) G k = 0 := su_zero fun _ _ => Rat.zero_mul _
theorem cf_su (c : Nat → Rat) (P : Nat → Nat → Rat) (G : Nat → Rat) (k : Nat) : ∀ n, cf (fun j => su (fun i => c i * P i j) n) G k = su (fun i => c i * cf (P i) G k) n
 | 0 => cf_zero_left G k
 | n + 1 => by
  show cf (fun j => su (fun i => c i * P i j) n + c n * P n j) G k = su (fun i => c i * cf (P i) G k) n + c n * cf (P n) G k
  rw [cf_add_left, cf_su c P G k n, cf_smul]
structure Hom (d : Nat) (f : Nat → Rat) (d' : Nat) (g : Nat → Rat) (t : Nat) : Prop where
 mon : Mon d f
 mon' : Mon d' g
 zero : Rm d' g (sb t (d + 1) f) fun _ => 0
end Q
end Go.Proofs.YtmbejakmeijcbaaGreat
/- Quotients by integer polynomials told by tables of the letter's powers: checks of the tables and what they give. No condition. -/
namespace Go.Proofs.YtmbejakmeijcbaaGreat
namespace Q
def fr (l : List Int) (i : Nat) : Rat := ((l.getD i 0 : Int) : Rat)
theorem fr_fin (l : List Int) : Fin l.length (fr l) := fun i hi => by
 unfold fr
 rw [List.getD_eq_getElem?_getD, List.getElem?_eq_none hi]; rfl
def isu (f : Nat → Int) : Nat → Int
 | 0 => 0
 | n + 1 => isu f n + f n
theorem su_cast (f : Nat → Int) : ∀ n, su (fun i => ((f i : Int) : Rat)) n = ((isu f n : Int) : Rat)
 | 0 => rfl
 | n + 1 => by
  show su _ n + _ = ((isu f n + f n : Int) : Rat)
  rw [su_cast f n, Rat.intCast_add]
abbrev row (T : List (List Int)) (k : Nat) : List Int := T.getD k []
def tabB (n d : Nat) (φ : List Int) (T : List (List Int)) : Bool :=
 decide (1 ≤ n) && decide (1 ≤ d) && decide (d ≤ 12) && decide (n ≤ 42) && (φ.length == d + 1) && (φ.getD d 0 == 1) && (T.length == n) && T.all (fun l => decide (l.length ≤ d)) &&
  ((List.range d).all fun j => (row T 0).getD j 0 == if j == 0 then 1 else 0) &&
  (List.range n).all fun k => (List.range d).all fun j => (row T ((k + 1) % n)).getD j 0 == (if j == 0 then 0 else (row T k).getD (j - 1) 0) - (row T k).getD (d - 1) 0 * φ.getD j 0
theorem row_fin {d : Nat} {T : List (List Int)} (h : T.all (fun l => decide (l.length ≤ d)) = true) (k : Nat) : Fin d (fr (row T k)) := by
 refine (fr_fin _).mono ?_
 show (T.getD k []).length ≤ d
 rw [List.getD_eq_getElem?_getD]
 cases hx : T[k]? with
 | none => exact Nat.zero_le _
 | some l => exact of_decide_eq_true (List.all_eq_true.1 h l (List.mem_of_getElem? hx))
structure Tab (n d : Nat) (f : Nat → Rat) (T : List (List Int)) : Prop where
 n1 : 1 ≤ n
 n2 : n ≤ 42
 d1 : 1 ≤ d
 d2 : d ≤ 12
 mon : Mon d f
 fin : ∀ k, Fin d (fr (row T k))
 zero : ∀ k, fr (row T 0) k = xp 0 k
 rm : ∀ k, Rm d f (xp k) (fr (row T (k % n)))
theorem cf_xp1 (r : Nat → Rat) (j : Nat) : cf r (xp 1) j = if 1 ≤ j then r (j - 1) else 0 := by
 rw [cf_comm, cf_xp]
theorem rm_next {d : Nat} {f r r' : Nat → Rat} (hf : Mon d f) (hd : 1 ≤ d) (hr : Fin d r) (hr' : Fin d r') (h : ∀ j, j < d → r' j = (if j = 0 then 0 else r (j - 1)) - r (d - 1) * f j) : Rm d f (cf r (xp 1)) r' := by
 refine ⟨hr', 1, fun i => if i = 0 then r (d - 1) else 0, fun i hi => if_neg (by omega), fun k => ?_⟩
 have e := cf_mono (r (d - 1)) 0 f k
 rw [if_pos (Nat.zero_le k), Nat.sub_zero] at e
 rw [e, cf_xp1]
 rcases Nat.lt_or_ge k d with c | c
 ·rw [h k c]
  by_cases c' : k = 0
  ·rw [if_neg (by omega), if_pos c']; grind
  ·rw [if_pos (by omega), if_neg c']; grind
 ·rw [hr' k c, if_pos (by omega)]
  rcases Nat.lt_or_ge d k with c' | c'
  ·rw [hr (k - 1) (by omega), hf.fin k (by omega)]; grind
  ·rw [show k = d by omega, hf.top]; grind
theorem tab_ok {n d : Nat} {φ : List Int} {T : List (List Int)} (h : tabB n d φ T = true) : Tab n d (fr φ) T := by
 unfold tabB at h
 simp only [Bool.and_eq_true, decide_eq_true_eq, beq_iff_eq] at h
 obtain ⟨⟨⟨⟨⟨⟨⟨⟨⟨h1, h2⟩, h3⟩, h4⟩, h5⟩, h6⟩, _⟩, h8⟩, h9⟩, h10⟩ := h
 have hm : Mon d (fr φ) := ⟨by unfold fr; rw [h6]; rfl, by rw [← h5]; exact fr_fin φ⟩
 have hz : ∀ k, fr (row T 0) k = xp 0 k := fun k => by
  rcases Nat.lt_or_ge k d with c | c
  ·have := beq_iff_eq.1 (List.all_eq_true.1 h9 k (List.mem_range.2 c))
   unfold fr xp
   rw [this]
   by_cases e : k = 0
   ·subst e; rfl
   ·rw [if_neg (by simpa using e), if_neg e]; rfl
  ·rw [row_fin h8 0 k c, show xp 0 k = 0 from if_neg (by omega)]
 refine ⟨h1, h4, h2, h3, hm, row_fin h8, hz, fun k => ?_⟩
 induction k with
 | zero =>
  rw [Nat.zero_mod]
  exact (Rm.self (row_fin h8 0)).congr hz
 | succ k ih =>
  have hk : k % n < n := Nat.mod_lt _ h1
  have e : (k % n + 1) % n = (k + 1) % n := by rw [Nat.mod_add_mod]
  have h11 := List.all_eq_true.1 h10 (k % n) (List.mem_range.2 hk)
  rw [e] at h11
  refine (ih.mul (xp_fin 1) (rm_next hm h2 (row_fin h8 _) (row_fin h8 _) fun j hj => ?_)).congr fun j => xp_add k 1 j
  have := beq_iff_eq.1 (List.all_eq_true.1 h11 j (List.mem_range.2 hj))
  unfold fr
  rw [this, Rat.intCast_sub, Rat.intCast_mul]
  by_cases c : j = 0
  ·subst c; rfl
  ·rw [if_neg (by simpa using c), if_neg c]
def im (n t m : Nat) (T : List (List Int)) (A : Nat → Rat) (j : Nat) : Rat := su (fun i => A i * fr (row T (i * t % n)) j) m
theorem Tab.im_rm {n d : Nat} {f : Nat → Rat} {T : List (List Int)} (h : Tab n d f T) (t m : Nat) (A : Nat → Rat) : Rm d f (sb t m A) (im n t m T A) :=
 Rm.su A (fun i => h.rm (i * t)) m
theorem Tab.im_fin {n d : Nat} {f : Nat → Rat} {T : List (List Int)} (h : Tab n d f T) (t m : Nat) (A : Nat → Rat) : Fin d (im n t m T A) := (h.im_rm t m A).1
theorem im_mod {n t t' m : Nat} {T : List (List Int)} {A : Nat → Rat} (e : t % n = t' % n) : im n t m T A = im n t' m T A := funext fun j => su_congr fun i _ => by
 rw [Nat.mul_mod i t, Nat.mul_mod i t', e]
theorem im_more {n t m m' : Nat} {T : List (List Int)} {A : Nat → Rat} (h : Fin m A) (hm : m ≤ m') : im n t m' T A = im n t m T A := funext fun _ => su_more (fun i hi => by rw [h i hi, Rat.zero_mul]) hm
def homB (d n' d' t : Nat) (φ : List Int) (T' : List (List Int)) : Bool := (List.range d').all fun j => isu (fun i => φ.getD i 0 * (row T' (i * t % n')).getD j 0) (d + 1) == 0
def unitB (n d : Nat) (φ : List Int) (T : List (List Int)) : Bool := (List.range n).all fun t => Nat.gcd t n != 1 || homB d n d t φ T
def trc (n d : Nat) (T : List (List Int)) (k : Nat) : Int := isu (fun i => (row T ((k + i) % n)).getD i 0) d
def sumB (n d : Nat) (T : List (List Int)) : Bool := (List.range n).all fun k => (List.range d).all fun j => isu (fun t => if Nat.gcd (t + 1) n == 1 then (row T (k * (t + 1) % n)).getD j 0 else 0) n == if j == 0 then trc n d T k else 0
def distB (n d : Nat) (T : List (List Int)) : Bool := (List.range n).all fun i => (List.range i).all fun j => (List.range d).any fun p => !((row T i).getD p 0 == (row T j).getD p 0)
end Q
end Go.Proofs.YtmbejakmeijcbaaGreat
/- Traces, sums of conjugates, lifts that can be undone, in a quotient told by a table. No condition. -/
namespace Go.Proofs.YtmbejakmeijcbaaGreat
namespace Q
theorem su_swap {f : Nat → Nat → Rat} (m : Nat) : ∀ n, su (fun i => su (fun l => f i l) m) n = su (fun l => su (fun i => f i l) n) m
 | 0 => (su_zero fun _ _ => rfl).symm
 | n + 1 => by
  show su (fun i => su (fun l => f i l) m) n + su (fun l => f n l) m = su (fun l => su (fun i => f i l) n + f n l) m
  rw [su_swap m n, su_add]
theorem su_xp {m : Nat} {A : Nat → Rat} (h : Fin m A) (j : Nat) : A j = su (fun l => A l * xp l j) m := by
 rcases Nat.lt_or_ge j m with c | c
 ·rw [su_one (t := j) c fun i _ hi => by rw [show xp i j = 0 from if_neg (fun e => hi e.symm), Rat.mul_zero]]
  rw [show xp j j = 1 from if_pos rfl, Rat.mul_one]
 ·rw [h j c]
  exact (su_zero fun i hi => by rw [show xp i j = 0 from if_neg (by omega), Rat.mul_zero]).symm
theorem cf_xp_su {m : Nat} {A : Nat → Rat} (h : Fin m A) (i j : Nat) : cf A (xp i) j = su (fun l => A l * xp (l + i) j) m := by
 have e := cf_su A xp (xp i) j m
 rw [cf_congr (F := A) (F' := fun j => su (fun l => A l * xp l j) m) (G' := xp i) (su_xp h) (fun _ => rfl), e]
 exact su_congr fun l _ => by rw [xp_add]
theorem Tab.row {n d m : Nat} {f A g : Nat → Rat} {a : Nat → Nat → Rat} {T : List (List Int)} (h : Tab n d f T) (hA : Fin m A) (hg : Rm d f (xp 1) g) (ha : Rws d f A g a) (i j : Nat) : a i j = su (fun l => A l * fr (Q.row T ((l + i) % n)) j) m :=
 (ha.row hg i).eq h.mon ((Rm.su A (fun l => h.rm (l + i)) m).congr fun k => (cf_xp_su hA i k).symm) j
theorem trc_mod (n d : Nat) (T : List (List Int)) (k : Nat) : trc n d T (k % n) = trc n d T k := by
 unfold trc
 congr 1
 funext i
 rw [Nat.mod_add_mod]
def dg (n d m : Nat) (T : List (List Int)) (A : Nat → Rat) : Rat := su (fun l => A l * ((trc n d T l : Int) : Rat)) m
theorem Tab.trace {n d m : Nat} {f A g : Nat → Rat} {a : Nat → Nat → Rat} {T : List (List Int)} (h : Tab n d f T) (hA : Fin m A) (hg : Rm d f (xp 1) g) (ha : Rws d f A g a) : su (fun i => a i i) d = dg n d m T A := by
 have e : su (fun i => a i i) d = su (fun i => su (fun l => A l * fr (Q.row T ((l + i) % n)) i) m) d := su_congr fun i _ => h.row hA hg ha i i
 rw [e, su_swap]
 refine su_congr fun l _ => ?_
 rw [su_mul]
 congr 1
 exact su_cast (fun i => (Q.row T ((l + i) % n)).getD i 0) d
def im0 (n m : Nat) (T : List (List Int)) (A : Nat → Rat) (j : Nat) : Nat → Rat := fun t => if Nat.gcd (t + 1) n = 1 then im n (t + 1) m T A j else 0
theorem Tab.sum {n d m : Nat} {f A : Nat → Rat} {T : List (List Int)} (h : Tab n d f T) (hb : sumB n d T = true) (j : Nat) : su (im0 n m T A j) n = if j = 0 then dg n d m T A else 0 := by
 have e : su (im0 n m T A j) n = su (fun l => A l * su (fun t => if Nat.gcd (t + 1) n = 1 then fr (Q.row T (l * (t + 1) % n)) j else 0) n) m := by
  have e1 : su (im0 n m T A j) n = su (fun t => su (fun l => A l * (if Nat.gcd (t + 1) n = 1 then fr (Q.row T (l * (t + 1) % n)) j else 0)) m) n := su_congr fun t _ => by
   unfold im0
   split
   ·rfl
   ·exact (su_zero fun _ _ => Rat.mul_zero _).symm
  rw [e1, su_swap]
  exact su_congr fun l _ => su_mul
 rw [e]
 have key : ∀ l, su (fun t => if Nat.gcd (t + 1) n = 1 then fr (Q.row T (l * (t + 1) % n)) j else 0) n = if j = 0 then ((trc n d T l : Int) : Rat) else 0 := fun l => by
  rcases Nat.lt_or_ge j d with c | c
  ·have h1 := beq_iff_eq.1 (List.all_eq_true.1 (List.all_eq_true.1 hb (l % n) (List.mem_range.2 (Nat.mod_lt _ h.n1))) j (List.mem_range.2 c))
   have h2 := su_cast (fun t => if Nat.gcd (t + 1) n == 1 then (Q.row T (l % n * (t + 1) % n)).getD j 0 else 0) n
   rw [h1, trc_mod] at h2
   have h3 : su (fun t => if Nat.gcd (t + 1) n = 1 then fr (Q.row T (l * (t + 1) % n)) j else 0) n = su (fun t => (((if Nat.gcd (t + 1) n == 1 then (Q.row T (l % n * (t + 1) % n)).getD j 0 else 0 : Int)) : Rat)) n := su_congr fun t _ => by
    by_cases c' : Nat.gcd (t + 1) n = 1
    ·rw [if_pos c', if_pos (by simpa using c')]
     unfold fr
     rw [Nat.mul_mod (l % n), Nat.mod_mod, ← Nat.mul_mod]
    ·rw [if_neg c', if_neg (by simpa using c')]; rfl
   rw [h3, h2]
   by_cases c' : j = 0
   ·subst c'; rfl
   ·rw [if_neg (by simpa using c'), if_neg c']; rfl
  ·rw [if_neg (by have := h.d1; omega)]
   exact su_zero fun t _ => by
    split
    ·exact h.fin _ j c
    ·rfl
 by_cases c : j = 0
 ·rw [if_pos c]
  exact su_congr fun l _ => by rw [key l, if_pos c]
 ·rw [if_neg c]
  exact su_zero fun l _ => by rw [key l, if_neg c, Rat.mul_zero]
def cnt (n : Nat) : Nat → Nat
 | 0 => 0
 | k + 1 => cnt n k + if Nat.gcd (k + 1) n = 1 then 1 else 0
theorem cnt_pos {n : Nat} : ∀ {k : Nat}, 1 ≤ k → 0 < cnt n k
 | 1, _ => by show 0 < 0 + (if Nat.gcd 1 n = 1 then 1 else 0); rw [if_pos (Nat.gcd_one_left n)]; decide
 | k + 2, _ => by
  have := cnt_pos (n := n) (k := k + 1) (by omega)
  show 0 < cnt n (k + 1) + _
  omega
theorem su_cnt {n m : Nat} {T : List (List Int)} {A r : Nat → Rat} {j : Nat} (h : ∀ t, Nat.gcd (t + 1) n = 1 → im n (t + 1) m T A j = r j) : ∀ k, su (im0 n m T A j) k = ((cnt n k : Nat) : Rat) * r j
 | 0 => by show (0 : Rat) = ((0 : Nat) : Rat) * r j; simp
 | k + 1 => by
  show su (im0 n m T A j) k + im0 n m T A j k = ((cnt n k + if Nat.gcd (k + 1) n = 1 then 1 else 0 : Nat) : Rat) * r j
  rw [su_cnt h k]
  unfold im0
  split
  ·rename_i c
   rw [h k c, Rat.natCast_add, Rat.add_mul]
   congr 1
   show r j = ((1 : Nat) : Rat) * r j
   simp
  ·rw [Nat.add_zero, Rat.add_zero]
theorem Tab.fixed {n d m : Nat} {f A r : Nat → Rat} {T : List (List Int)} (h : Tab n d f T) (hb : sumB n d T = true) (hr : ∀ t, Nat.gcd (t + 1) n = 1 → ∀ j, im n (t + 1) m T A j = r j) {j : Nat} (hj : 1 ≤ j) : r j = 0 := by
 have e1 := su_cnt (n := n) (fun t ht => hr t ht j) n
 rw [h.sum hb, if_neg (by omega)] at e1
 have e2 := cnt_pos (n := n) h.n1
 have e3 : ((cnt n n : Nat) : Rat) ≠ 0 := fun e => by
  have : cnt n n = 0 := by exact_mod_cast e
  omega
 rcases Rat.mul_eq_zero.1 e1.symm with c | c
 ·exact absurd c e3
 ·exact c
theorem Tab.im_rat {n d t m : Nat} {f A : Nat → Rat} {T : List (List Int)} (h : Tab n d f T) (hm : 1 ≤ m) (hA : ∀ j, 1 ≤ j → A j = 0) (j : Nat) : im n t m T A j = if j = 0 then A 0 else 0 := by
 have e : im n t m T A j = A 0 * fr (Q.row T (0 * t % n)) j := su_one (t := 0) hm fun i _ hi => by rw [hA i (by omega), Rat.zero_mul]
 rw [e, Nat.zero_mul, Nat.zero_mod, h.zero]
 by_cases c : j = 0
 ·rw [if_pos c, show xp 0 j = 1 from if_pos c, Rat.mul_one]
 ·rw [if_neg c, show xp 0 j = 0 from if_neg c, Rat.mul_zero]
end Q
end Go.Proofs.YtmbejakmeijcbaaGreat
/- Polynomials over the integers, as functions: sums of products. -/
namespace Go.Proofs.YtmbejakmeijcbaaGreat
namespace Z
theorem tl_behind {a : Nat → Int} : ∀ {n k : Nat}, tl a n ≤ k → k < n → a k = 0
 | 0, k, _, h => absurd h (Nat.not_lt_zero k)
 | n + 1, k, h, hk => by
  unfold tl at h
  split at h
  ·rename_i h0
   by_cases e : k = n
   ·rw [e]; exact h0
   ·exact tl_behind h (by omega)
  ·omega
def su (f : Nat → Int) : Nat → Int
 | 0 => 0
 | n + 1 => su f n + f n
theorem su_congr {f g : Nat → Int} : ∀ {n : Nat}, (∀ i, i < n → f i = g i) → su f n = su g n
 | 0, _ => rfl
 | n + 1, h => by
  unfold su
  rw [su_congr fun i hi => h i (by omega), h n (by omega)]
theorem su_add {f g : Nat → Int} : ∀ {n : Nat}, su (fun i => f i + g i) n = su f n + su g n
 | 0 => (Int.add_zero 0).symm
 | n + 1 => by
  unfold su
  rw [su_add]
  grind
theorem su_zero {f : Nat → Int} : ∀ {n : Nat}, (∀ i, i < n → f i = 0) → su f n = 0
 | 0, _ => rfl
 | n + 1, h => by
  unfold su
  rw [su_zero fun i hi => h i (by omega), h n (by omega), Int.add_zero]
theorem su_head {f : Nat → Int} : ∀ {n : Nat}, su f (n + 1) = f 0 + su (fun i => f (i + 1)) n
 | 0 => by show 0 + f 0 = f 0 + 0; rw [Int.add_comm]
 | n + 1 => by
  show su f (n + 1) + f (n + 1) = f 0 + (su (fun i => f (i + 1)) n + f (n + 1))
  rw [su_head, Int.add_assoc]
theorem su_rev : ∀ {n : Nat} {f : Nat → Int}, su f n = su (fun i => f (n - 1 - i)) n
 | 0, _ => rfl
 | n + 1, f => by
  rw [su_head, su_rev (n := n)]
  show f 0 + su (fun i => f (n - 1 - i + 1)) n = su (fun i => f (n + 1 - 1 - i)) n + f (n + 1 - 1 - n)
  rw [show n + 1 - 1 - n = 0 by omega, su_congr (g := fun i => f (n + 1 - 1 - i)) fun i hi => by
   show f (n - 1 - i + 1) = f (n + 1 - 1 - i)
   rw [show n - 1 - i + 1 = n + 1 - 1 - i by omega]]
  rw [Int.add_comm]
theorem su_one {f : Nat → Int} {t : Nat} : ∀ {n : Nat}, t < n → (∀ i, i < n → i ≠ t → f i = 0) → su f n = f t
 | 0, h, _ => absurd h (Nat.not_lt_zero t)
 | n + 1, h, h0 => by
  unfold su
  by_cases e : t = n
  ·subst e
   rw [su_zero fun i hi => h0 i (by omega) (by omega), Int.zero_add]
  ·rw [su_one (t := t) (by omega) fun i hi he => h0 i (by omega) he, h0 n (by omega) (fun h => e h.symm), Int.add_zero]
def cf (F G : Nat → Int) (k : Nat) : Int := su (fun i => F i * G (k - i)) (k + 1)
theorem cf_comm (F G : Nat → Int) (k : Nat) : cf F G k = cf G F k := by
 unfold cf
 rw [su_rev]
 refine su_congr fun i hi => ?_
 rw [show k + 1 - 1 - i = k - i by omega, show k - (k - i) = i by omega, Int.mul_comm]
theorem cf_add (F G H : Nat → Int) (k : Nat) : cf F (fun i => G i + H i) k = cf F G k + cf F H k := by
 unfold cf
 rw [← su_add]
 exact su_congr fun i _ => Int.mul_add _ _ _
theorem cf_add_left (F G H : Nat → Int) (k : Nat) : cf (fun i => F i + G i) H k = cf F H k + cf G H k := by
 rw [cf_comm, cf_add, cf_comm H F, cf_comm H G]
theorem cf_congr {F F' G G' : Nat → Int} (h : ∀ i, F i = F' i) (h' : ∀ i, G i = G' i) (k : Nat) : cf F G k = cf F' G' k :=
 su_congr fun i _ => by rw [h, h']
def Fin (n : Nat) (F : Nat → Int) : Prop := ∀ k, n ≤ k → F k = 0
theorem Fin.mono {n m : Nat} {F : Nat → Int} (h : Fin n F) (hm : n ≤ m) : Fin m F := fun k hk => h k (by omega)
theorem Fin.cf {n m : Nat} {F G : Nat → Int} (h : Fin n F) (h' : Fin m G) : Fin (n + m) (cf F G) := fun k hk => su_zero fun i hi => by
 rcases Nat.lt_or_ge i n with c | c
 ·rw [h' (k - i) (by omega), Int.mul_zero]
 ·rw [h i c, Int.zero_mul]
structure Mon (n : Nat) (f : Nat → Int) : Prop where
 top : f n = 1
 fin : Fin (n + 1) f
theorem cf_top {n t : Nat} {f q : Nat → Int} (hf : Mon n f) (hq : Fin (t + 1) q) : cf q f (t + n) = q t := by
 have h : cf q f (t + n) = q t * f (t + n - t) := su_one (t := t) (by omega) fun i hi he => by
  rcases Nat.lt_or_ge i (t + 1) with c | c
  ·rw [hf.fin (t + n - i) (by omega), Int.mul_zero]
  ·rw [hq i c, Int.zero_mul]
 rw [h, show t + n - t = n by omega, hf.top, Int.mul_one]
theorem tl_eq {v : Nat → Int} {n m : Nat} (h : Fin n v) (h' : Fin m v) : tl v n = tl v m := by
 have key : ∀ {n m : Nat}, Fin n v → Fin m v → tl v n ≤ tl v m := fun {n m} h h' => by
  rcases Nat.lt_or_ge (tl v m) (tl v n) with c | c
  ·obtain ⟨k, hk⟩ : ∃ k, tl v n = k + 1 := ⟨tl v n - 1, by omega⟩
   refine absurd ?_ (tl_top hk)
   rcases Nat.lt_or_ge k m with c' | c'
   ·exact tl_behind (by omega) c'
   ·exact h' k c'
  ·exact c
 exact Nat.le_antisymm (key h h') (key h' h)
theorem tl_fin {v : Nat → Int} {n : Nat} (h : Fin n v) : Fin (tl v n) v := fun k hk => by
 rcases Nat.lt_or_ge k n with c | c
 ·exact tl_behind hk c
 ·exact h k c
theorem tl_zero {v : Nat → Int} (h : ∀ k, v k = 0) : ∀ n, tl v n = 0
 | 0 => rfl
 | n + 1 => by unfold tl; rw [if_pos (h n), tl_zero h n]
theorem tl_is {v : Nat → Int} {n k : Nat} (h : Fin n v) (hk : Fin k v) (ht : k = 0 ∨ v (k - 1) ≠ 0) : tl v n = k := by
 rw [tl_eq h hk]
 refine tl_self fun j hj => ?_
 rcases ht with ht | ht
 ·omega
 ·rwa [hj, Nat.add_sub_cancel] at ht
end Z
end Go.Proofs.YtmbejakmeijcbaaGreat
/- Abstract values and states written out whole, so that a run may go on from them: what is known stays known. -/
namespace Go.Proofs.YtmbejakmeijcbaaGreat
open Go.RowKit
def fN {β : Type} (n : Nat) (k : Nat → β) : β := match n with
  | 0 => k 0
  | m + 1 => k (Nat.succ m)
theorem fN_eq {β : Type} (n : Nat) (k : Nat → β) : fN n k = k n := by cases n <;> rfl
def fI {β : Type} (n : Int) (k : Int → β) : β := match n with
  | .ofNat m => fN m fun m => k (.ofNat m)
  | .negSucc m => fN m fun m => k (.negSucc m)
theorem fI_eq {β : Type} (n : Int) (k : Int → β) : fI n k = k n := by cases n <;> simp only [fI, fN_eq]
def fB {β : Type} (b : Bool) (k : Bool → β) : β := match b with
  | true => k true
  | false => k false
theorem fB_eq {β : Type} (b : Bool) (k : Bool → β) : fB b k = k b := by cases b <;> rfl
def fK {β : Type} (x : IntKind) (k : IntKind → β) : β := match x with
  | .i8 => k .i8
  | .i16 => k .i16
  | .i32 => k .i32
  | .i64 => k .i64
  | .u8 => k .u8
  | .u16 => k .u16
  | .u32 => k .u32
  | .u64 => k .u64
theorem fK_eq {β : Type} (x : IntKind) (k : IntKind → β) : fK x k = k x := by cases x <;> rfl
def fSeq {α β : Type} (m : Nat) (g : Nat → (α → β) → β) (acc : List α) (k : List α → β) : β := match m with
  | 0 => k acc
  | m + 1 => g m fun c => fSeq m g (c :: acc) k
theorem fSeq_eq {α β : Type} {g : Nat → (α → β) → β} {h : Nat → α} (hg : ∀ x k, g x k = k (h x)) : ∀ (m : Nat) (acc : List α) (k : List α → β), fSeq m g acc k = k ((List.range m).map h ++ acc)
  | 0, _, _ => rfl
  | m + 1, acc, k => by
    simp only [fSeq, hg]
    rw [fSeq_eq hg m]
    rw [List.range_succ, List.map_append, List.append_assoc]
    rfl
def listC (m : Nat) (h : Nat → Cell) : List Cell := (List.range m).map h
def nrmC : Cell → Cell
  | .row sz n f => .row sz n (rowF sz (listC (n * sz) fun x => nrmC (f (x / sz) (x % sz))))
  | .xp m f => .xp m fun j => (listC m fun x => nrmC (f x)).getD j .any
  | .cl F m f => .cl F m fun j => (listC m fun x => nrmC (f x)).getD j .any
  | c => c
def fC {β : Type} : Cell → (Cell → β) → β
  | .any, k => k .any
  | .bool b, k => fB b fun b => k (.bool b)
  | .int x n, k => fK x fun x => fI n fun n => k (.int x n)
  | .nil, k => k .nil
  | .row sz n f, k => fN sz fun sz' => fN n fun n' => fSeq (n' * sz') (fun x kk => fC (f (x / sz') (x % sz')) kk) [] fun l => k (.row sz' n' (rowF sz' l))
  | .p i u sz a o, k => fN i fun i => fN u fun u => fN sz fun sz => fN a fun a => fN o fun o => k (.p i u sz a o)
  | .gs i u, k => fN i fun i => fN u fun u => k (.gs i u)
  | .sl i u sz o n, k => fN i fun i => fN u fun u => fN sz fun sz => fN o fun o => fN n fun n => k (.sl i u sz o n)
  | .xp m f, k => fN m fun m' => fSeq m' (fun x kk => fC (f x) kk) [] fun l => k (.xp m' fun j => l.getD j .any)
  | .fn F, k => fN F fun F => k (.fn F)
  | .str s, k => k (.str s)
  | .cl F m f, k => fN F fun F => fN m fun m' => fSeq m' (fun x kk => fC (f x) kk) [] fun l => k (.cl F m' fun j => l.getD j .any)
theorem fC_eq {β : Type} : ∀ (c : Cell) (k : Cell → β), fC c k = k (nrmC c)
  | .any, _ => rfl
  | .bool b, k => by simp only [fC, fB_eq, nrmC]
  | .int x n, k => by simp only [fC, fK_eq, fI_eq, nrmC]
  | .nil, _ => rfl
  | .row sz n f, k => by
    simp only [fC, fN_eq, nrmC]
    rw [fSeq_eq (h := fun x => nrmC (f (x / sz) (x % sz))) fun x kk => fC_eq (f (x / sz) (x % sz)) kk]
    simp only [List.append_nil, listC]
  | .p i u sz a o, k => by simp only [fC, fN_eq, nrmC]
  | .gs i u, k => by simp only [fC, fN_eq, nrmC]
  | .sl i u sz o n, k => by simp only [fC, fN_eq, nrmC]
  | .xp m f, k => by
    simp only [fC, fN_eq, nrmC]
    rw [fSeq_eq (h := fun x => nrmC (f x)) fun x kk => fC_eq (f x) kk]
    simp only [List.append_nil, listC]
  | .fn F, k => by simp only [fC, fN_eq, nrmC]
  | .str _, _ => rfl
  | .cl F m f, k => by
    simp only [fC, fN_eq, nrmC]
    rw [fSeq_eq (h := fun x => nrmC (f x)) fun x kk => fC_eq (f x) kk]
    simp only [List.append_nil, listC]
theorem listC_get {m : Nat} {h : Nat → Cell} {j : Nat} (hj : j < m) : (listC m h).getD j .any = h j := by
  simp [listC, List.getD, hj]
theorem nrmC_rel {D : Nat → Prop} {w : World} : ∀ {c : Cell} {ρ : List Loc} {v : Value}, CRel D w ρ c v → CRel D w ρ (nrmC c) v
  | .any, _, _, h => h
  | .bool _, _, _, h => h
  | .int _ _, _, _, h => h
  | .nil, _, _, h => h
  | .fn _, _, _, h => h
  | .str _, _, _, h => h
  | .p .., _, _, h => h
  | .gs .., _, _, h => h
  | .sl .., _, _, h => h
  | .row sz n f, _, _, h => by
    obtain ⟨A, c, h1, h2, h3⟩ := h
    refine ⟨A, c, h1, h2, fun hn => ?_⟩
    obtain ⟨b, o, hA, hb, hD, hc⟩ := h3 hn
    refine ⟨b, o, hA, hb, hD, fun i j hi hj => ?_⟩
    obtain ⟨u, hu, hr⟩ := hc i j hi hj
    refine ⟨u, hu, ?_⟩
    have h0 : 0 < sz := by omega
    have e1 : (i * sz + j) / sz = i := by
      rw [Nat.add_comm, Nat.add_mul_div_right _ _ h0, Nat.div_eq_of_lt hj, Nat.zero_add]
    have e2 : (i * sz + j) % sz = j := by rw [Nat.add_comm, Nat.add_mul_mod_self_right, Nat.mod_eq_of_lt hj]
    show CRel D w [] ((listC (n * sz) _).getD (i * sz + j) .any) u
    rw [listC_get (idx_lt hi hj (Nat.le_refl _)), e1, e2]
    exact nrmC_rel hr
  | .xp m f, _, _, h => by
    obtain ⟨b, o, h1, hb, hD, hc⟩ := h
    refine ⟨b, o, h1, hb, hD, fun j hj => ?_⟩
    obtain ⟨u, hu, hr⟩ := hc j hj
    refine ⟨u, hu, ?_⟩
    show CRel D w [] ((listC m _).getD j .any) u
    rw [listC_get hj]
    exact nrmC_rel hr
  | .cl F m f, ρ, _, h => by
    obtain ⟨caps, h1, h2, h3⟩ := h
    refine ⟨caps, h1, h2, fun j hj => ?_⟩
    obtain ⟨u, hu, hr⟩ := h3 j hj
    refine ⟨u, hu, ?_⟩
    show CRel D w ρ ((listC m _).getD j .any) u
    rw [listC_get hj]
    exact nrmC_rel hr
def fL {β : Type} : List Cell → (List Cell → β) → β
  | [], k => k []
  | c :: l, k => fC c fun c => fL l fun l => k (c :: l)
theorem fL_eq {β : Type} : ∀ (l : List Cell) (k : List Cell → β), fL l k = k (l.map nrmC)
  | [], _ => rfl
  | c :: l, k => by simp only [fL, fC_eq, fL_eq l, List.map_cons]
def nrmV : V → V
  | .c x => .c (nrmC x)
  | .g l => .g (l.map nrmC)
  | .t2 a b => .t2 (nrmV a) (nrmV b)
  | .t3 a b d => .t3 (nrmV a) (nrmV b) (nrmV d)
  | .t4 a b d e => .t4 (nrmV a) (nrmV b) (nrmV d) (nrmV e)
def fV {β : Type} : V → (V → β) → β
  | .c x, k => fC x fun x => k (.c x)
  | .g l, k => fL l fun l => k (.g l)
  | .t2 a b, k => fV a fun a => fV b fun b => k (.t2 a b)
  | .t3 a b d, k => fV a fun a => fV b fun b => fV d fun d => k (.t3 a b d)
  | .t4 a b d e, k => fV a fun a => fV b fun b => fV d fun d => fV e fun e => k (.t4 a b d e)
theorem fV_eq {β : Type} : ∀ (x : V) (k : V → β), fV x k = k (nrmV x)
  | .c x, k => by simp only [fV, fC_eq, nrmV]
  | .g l, k => by simp only [fV, fL_eq, nrmV]
  | .t2 a b, k => by simp only [fV, fV_eq a, fV_eq b, nrmV]
  | .t3 a b d, k => by simp only [fV, fV_eq a, fV_eq b, fV_eq d, nrmV]
  | .t4 a b d e, k => by simp only [fV, fV_eq a, fV_eq b, fV_eq d, fV_eq e, nrmV]
theorem nrmL_rel {D : Nat → Prop} {w : World} {ρ : List Loc} : ∀ {l : List Cell} {vs : List Value}, CRels D w ρ l vs → CRels D w ρ (l.map nrmC) vs
  | [], [], _ => trivial
  | _ :: _, _ :: _, h => ⟨nrmC_rel h.1, nrmL_rel h.2⟩
  | [], _ :: _, h => h.elim
  | _ :: _, [], h => h.elim
theorem nrmV_rel {D : Nat → Prop} {w : World} {ρ : List Loc} : ∀ {x : V} {v : Value}, VRel D w ρ x v → VRel D w ρ (nrmV x) v
  | .c _, _, h => nrmC_rel h
  | .g _, _, h => by obtain ⟨vs, h1, h2⟩ := h; exact ⟨vs, h1, nrmL_rel h2⟩
  | .t2 _ _, _, h => by obtain ⟨x, y, h1, h2, h3⟩ := h; exact ⟨x, y, h1, nrmV_rel h2, nrmV_rel h3⟩
  | .t3 _ _ _, _, h => by obtain ⟨x, y, z, h1, h2, h3, h4⟩ := h; exact ⟨x, y, z, h1, nrmV_rel h2, nrmV_rel h3, nrmV_rel h4⟩
  | .t4 _ _ _ _, _, h => by obtain ⟨x, y, z, u, h1, h2, h3, h4, h5⟩ := h; exact ⟨x, y, z, u, h1, nrmV_rel h2, nrmV_rel h3, nrmV_rel h4, nrmV_rel h5⟩
def nrmB (B : Blk) : Blk := match B.st with
  | 0 | 1 => { B with f := rowF B.sz (listC (B.n * B.sz) fun x => nrmC (B.f (x / B.sz) (x % B.sz))) }
  | _ => phB
def fBlk {β : Type} (B : Blk) (k : Blk → β) : β := match B.st with
  | 0 => fN B.t fun t => fN B.sz fun sz => fN B.n fun n => fN B.u fun u => fSeq (n * sz) (fun x kk => fC (B.f (x / sz) (x % sz)) kk) [] fun l => k ⟨t, sz, n, u, 0, rowF sz l⟩
  | 1 => fN B.t fun t => fN B.sz fun sz => fN B.n fun n => fN B.u fun u => fSeq (n * sz) (fun x kk => fC (B.f (x / sz) (x % sz)) kk) [] fun l => k ⟨t, sz, n, u, 1, rowF sz l⟩
  | _ => k phB
theorem fBlk_eq {β : Type} (B : Blk) (k : Blk → β) : fBlk B k = k (nrmB B) := by
  obtain ⟨t, sz, n, u, st, f⟩ := B
  match st with
  | 0 =>
    simp only [fBlk, nrmB, fN_eq]
    rw [fSeq_eq (h := fun x => nrmC (f (x / sz) (x % sz))) fun x kk => fC_eq (f (x / sz) (x % sz)) kk]
    simp only [List.append_nil, listC]
  | 1 =>
    simp only [fBlk, nrmB, fN_eq]
    rw [fSeq_eq (h := fun x => nrmC (f (x / sz) (x % sz))) fun x kk => fC_eq (f (x / sz) (x % sz)) kk]
    simp only [List.append_nil, listC]
  | _ + 2 => rfl
def fBs {β : Type} : List Blk → (List Blk → β) → β
  | [], k => k []
  | B :: l, k => fBlk B fun B => fBs l fun l => k (B :: l)
theorem fBs_eq {β : Type} : ∀ (l : List Blk) (k : List Blk → β), fBs l k = k (l.map nrmB)
  | [], _ => rfl
  | B :: l, k => by simp only [fBs, fBlk_eq, fBs_eq l, List.map_cons]
def listV (m : Nat) (h : Nat → V) : List V := (List.range m).map h
def getV (l : List V) (t : Nat) : V := l.getD t (.c .any)
def nrm (N : Nat) (σ : St) : St := ⟨getV (listV N fun t => nrmV (σ.tm t)), σ.bl.map nrmB⟩
def fSt {β : Type} (N : Nat) (σ : St) (k : St → β) : β := fSeq N (fun t kk => fV (σ.tm t) kk) [] fun l => fBs σ.bl fun bl => k ⟨getV l, bl⟩
theorem fSt_eq {β : Type} (N : Nat) (σ : St) (k : St → β) : fSt N σ k = k (nrm N σ) := by
  unfold fSt
  rw [fSeq_eq (h := fun t => nrmV (σ.tm t)) fun t kk => fV_eq (σ.tm t) kk, fBs_eq]
  simp only [List.append_nil, nrm, listV]
def Lax (σ σ' : St) : Prop := ∀ C a w, Rel C σ a w → Rel C σ' a w
theorem Lax.refl (σ : St) : Lax σ σ := fun _ _ _ h => h
theorem Lax.trans {a b c : St} (h : Lax a b) (k : Lax b c) : Lax a c := fun C x w hr => k C x w (h C x w hr)
theorem Weak.lax {σ σ' : St} (h : ∀ m0, Weak m0 σ σ') : Lax σ σ' := fun C a w hr => h C.ρ0.length C a w (Nat.le_refl _) hr
theorem Sat.less {D0 : Nat → Prop} {w0 : Base} {w : World} {r : Bool} {ρ : List Loc} {bl : List Blk} (h : Sat D0 w0 r ρ bl w) (g : Blk → Blk) (hst : ∀ B, (g B).st ≤ 1 → (g B).st = B.st ∧ (g B).t = B.t ∧ (g B).sz = B.sz ∧ (g B).n = B.n ∧ (g B).u = B.u)
    (hc : ∀ B ∈ bl, (g B).st ≤ 1 → ∀ i j, i < B.n → j < B.sz → ∀ v, CRel (Dof D0 ρ bl) w (if B.st = 0 then ρ else []) (B.f i j) v → CRel (Dof D0 ρ bl) w (if B.st = 0 then ρ else []) ((g B).f i j) v) : Sat D0 w0 r ρ (bl.map g) w ∧ (∀ b, Dof D0 ρ (bl.map g) b → Dof D0 ρ bl b) := by
  have get : ∀ (k : Nat) (B' : Blk), (bl.map g)[k]? = some B' → ∃ B, bl[k]? = some B ∧ B' = g B := by
    intro k B' hk
    rw [List.getElem?_map] at hk
    cases hb : bl[k]? with
    | none => rw [hb] at hk; cases hk
    | some B => rw [hb] at hk; cases hk; exact ⟨B, rfl, rfl⟩
  have hD : ∀ b, Dof D0 ρ (bl.map g) b → Dof D0 ρ bl b := by
    rintro b (hx | ⟨k, l, B', e1, e2, e3, e4⟩)
    · exact .inl hx
    · obtain ⟨B, q1, rfl⟩ := get k B' e2
      exact .inr ⟨k, l, B, e1, q1, by rw [← (hst B (by omega)).1]; exact e3, e4⟩
  refine ⟨⟨h.below, h.d0, by simp [h.len], fun k l B' e1 e2 hs => ?_, fun i j li lj Bi Bj b e1 e2 e3 e4 e5 e6 e7 e8 => ?_, fun hr b o d hb => h.noU hr b o d (hD b hb)⟩, hD⟩
  · obtain ⟨B, q1, rfl⟩ := get k B' e2
    obtain ⟨s1, s2, s3, s4, s5⟩ := hst B hs
    obtain ⟨g0, g1⟩ := h.at_ k l B e1 q1 (by omega)
    rw [s1, s2, s3, s4, s5]
    refine ⟨g0, ?_⟩
    rcases g1 with g1 | ⟨b, cap, cs, g2, g3, g4, g5, g6, g7, g8, g9⟩
    · exact .inl g1
    · refine .inr ⟨b, cap, cs, g2, g3, g4, g5, g6, g7, g8, fun i j hi hj => ?_⟩
      obtain ⟨u, hu, hur⟩ := g9 i j hi hj
      exact ⟨u, hu, (hc B (List.mem_of_getElem? q1) hs i j hi hj u hur).step (Ext.refl _ _) (fun b _ hb => hD b hb) (LocsLe.refl _)⟩
  · obtain ⟨B1, q1, rfl⟩ := get i Bi e3
    obtain ⟨B2, q2, rfl⟩ := get j Bj e4
    exact h.dist i j li lj B1 B2 b e1 e2 q1 q2 (by rw [← (hst B1 e5).1]; exact e5) (by rw [← (hst B2 e6).1]; exact e6) e7 e8
theorem Lax.nrm (N : Nat) (σ : St) : Lax σ (nrm N σ) := by
  rintro C a w ⟨ρ, hs, hN, hdf, hf⟩
  obtain ⟨s1, s2⟩ := hs.less nrmB (fun B hb => by
    obtain ⟨t, sz, n, u, st, f⟩ := B
    match st, hb with
    | 0, _ => exact ⟨rfl, rfl, rfl, rfl, rfl⟩
    | 1, _ => exact ⟨rfl, rfl, rfl, rfl, rfl⟩
    | _ + 2, hb => exact absurd hb (by simp [nrmB, phB])) (fun B _ hb i j hi hj v hv => by
    obtain ⟨t, sz, n, u, st, f⟩ := B
    have h0 : 0 < sz := Nat.lt_of_le_of_lt (Nat.zero_le _) hj
    have e1 : (i * sz + j) / sz = i := by
      rw [Nat.add_comm, Nat.add_mul_div_right _ _ h0, Nat.div_eq_of_lt hj, Nat.zero_add]
    have e2 : (i * sz + j) % sz = j := by rw [Nat.add_comm, Nat.add_mul_mod_self_right, Nat.mod_eq_of_lt hj]
    have key : CRel (Dof C.D0 ρ σ.bl) w (if st = 0 then ρ else []) (rowF sz (listC (n * sz) fun x => nrmC (f (x / sz) (x % sz))) i j) v := by
      show CRel _ _ _ ((listC (n * sz) _).getD (i * sz + j) .any) v
      rw [listC_get (idx_lt hi hj (Nat.le_refl _)), e1, e2]
      exact nrmC_rel hv
    match st, hb with
    | 0, _ => exact key
    | 1, _ => exact key
    | _ + 2, hb => exact absurd hb (by simp [nrmB, phB]))
  refine ⟨ρ, s1, hN, hdf, fun t => ?_⟩
  show VRel _ _ _ (getV (listV N fun t => nrmV (σ.tm t)) t) _
  have : getV (listV N fun t => nrmV (σ.tm t)) t = nrmV (σ.tm t) ∨ getV (listV N fun t => nrmV (σ.tm t)) t = .c .any := by
    rcases Nat.lt_or_ge t N with h | h
    · left; simp [getV, listV, List.getD, h]
    · right; simp [getV, listV, List.getD, h]
  rcases this with e | e
  · rw [e]; exact (nrmV_rel (hf t)).step (Ext.refl _ _) (fun b _ hb => s2 b hb) (LocsLe.refl _)
  · rw [e]; trivial
end Go.Proofs.YtmbejakmeijcbaaGreat
/- Abstract operations asl functions: what each yields, where all that it asks is known. -/
namespace Go.Proofs.YtmbejakmeijcbaaGreat
open Go.RowKit
def chkX {α : Type} (b : Bool) (p : Option α) : Option α := match b with
  | true => p
  | false => none
theorem chkX_some {α : Type} {b : Bool} {p : Option α} {r : α} (h : chkX b p = some r) : b = true ∧ p = some r := by
  cases b with
  | true => exact ⟨rfl, h⟩
  | false => cases h
theorem chk_mk {b : Bool} {p : Prop} (hb : b = true) (h : p) : chk b p := by subst hb; exact h
def inRX (k : IntKind) (n : Int) : Bool := match k with
  | .i64 => decide (-9223372036854775808 ≤ n) && decide (n < 9223372036854775808)
  | .u64 => decide (0 ≤ n) && decide (n < 18446744073709551616)
  | .u32 => decide (0 ≤ n) && decide (n < 4294967296)
  | k => decide (k.wrap n = n)
theorem inRX_ok {k : IntKind} {n : Int} (h : inRX k n = true) : inR k n := by
  cases k <;> simp only [inRX, inR, Bool.and_eq_true, decide_eq_true_eq] at h ⊢ <;> exact h
def arX (k : IntKind) (n : Int) : Option V := match k with
  | .u64 | .u32 | .u16 | .u8 => some (.c (.int k (k.wrap n)))
  | k => chkX (inRX k n) (some (.c (.int k n)))
theorem arX_ok {k : IntKind} {n : Int} {v : V} (h : arX k n = some v) {K : V → Prop} (hK : K v) : arB k n K := by
  cases k <;> simp only [arX] at h <;> simp only [arB] <;> first
    | (cases h; exact hK)
    | (obtain ⟨h1, h2⟩ := chkX_some h; cases h2; exact ⟨inRX_ok h1, hK⟩)
def binX (op : BinOp) (k : IntKind) (a b : Int) : Option V := match op with
  | .add => arX k (a + b)
  | .sub => arX k (a - b)
  | .mul => arX k (a * b)
  | .quo => chkX (!decide (b = 0) && inRX k (a.tdiv b)) (some (.c (.int k (a.tdiv b))))
  | .rem => chkX (!decide (b = 0)) (some (.c (.int k (a.tmod b))))
  | .eql => some (.c (.bool (decide (a = b))))
  | .neq => some (.c (.bool (!decide (a = b))))
  | .lss => some (.c (.bool (decide (a < b))))
  | .leq => some (.c (.bool (decide (a ≤ b))))
  | .gtr => some (.c (.bool (decide (b < a))))
  | .geq => some (.c (.bool (decide (b ≤ a))))
  | .shl => chkX (decide (0 ≤ b)) (some (.c (.int k (k.wrap (a * 2 ^ min b.toNat k.bits)))))
  | .shr => chkX (decide (0 ≤ b)) (some (.c (.int k (a.fdiv (2 ^ min b.toNat k.bits)))))
  | .and => some (.c (.int k (k.wrap (BitVec.ofInt k.bits a &&& BitVec.ofInt k.bits b).toNat)))
  | .or => some (.c (.int k (k.wrap (BitVec.ofInt k.bits a ||| BitVec.ofInt k.bits b).toNat)))
  | .xor => some (.c (.int k (k.wrap (BitVec.ofInt k.bits a ^^^ BitVec.ofInt k.bits b).toNat)))
  | _ => none
theorem binX_ok {op : BinOp} {k : IntKind} {a b : Int} {v : V} (h : binX op k a b = some v) {K : V → Prop} (hK : K v) : intBin op k a b K := by
  cases op <;> simp only [binX] at h <;> simp only [intBin]
  case add => exact arX_ok h hK
  case sub => exact arX_ok h hK
  case mul => exact arX_ok h hK
  case quo =>
    obtain ⟨h1, h2⟩ := chkX_some h; cases h2
    simp only [Bool.and_eq_true, Bool.not_eq_true', decide_eq_false_iff_not] at h1
    exact ⟨h1.1, inRX_ok h1.2, hK⟩
  case rem =>
    obtain ⟨h1, h2⟩ := chkX_some h; cases h2
    simp only [Bool.not_eq_true', decide_eq_false_iff_not] at h1
    exact ⟨h1, hK⟩
  case shl => obtain ⟨h1, h2⟩ := chkX_some h; cases h2; exact ⟨of_decide_eq_true h1, hK⟩
  case shr => obtain ⟨h1, h2⟩ := chkX_some h; cases h2; exact ⟨of_decide_eq_true h1, hK⟩
  all_goals (first | (cases h; done) | (cases h; exact hK))
def sliceX (bl : List Blk) (x : V) (lo hi : Option V) : Option V :=
  match (match lo with | none => some 0 | some (V.c (.int .i64 n)) => some n | _ => none), (match hi with | none => (lenA bl x).map Int.ofNat | some (V.c (.int .i64 n)) => some n | _ => none) with
  | some l, some h => chkX (decide (0 ≤ l) && decide (l ≤ h)) (match x with
    | .c (.row sz n f) => chkX (decide (h ≤ n)) (some (.c (.row sz (h - l).toNat fun i j => f (l.toNat + i) j)))
    | .c (.gs k u) => match bl[k]? with
      | some B => chkX (B.u == u && B.st.ble 1) (chkX (decide (h ≤ B.n)) (some (.c (.sl k u B.sz l.toNat (h - l).toNat))))
      | none => none
    | .c (.sl k u sz o n) => match bl[k]? with
      | some B => chkX (B.u == u && B.st.ble 1) (chkX (decide (h ≤ n)) (some (.c (.sl k u sz (o + l.toNat) (h - l).toNat))))
      | none => none
    | _ => none)
  | _, _ => none
theorem sliceX_ok {bl : List Blk} {x : V} {lo hi : Option V} {v : V} (h : sliceX bl x lo hi = some v) {K : V → Prop} (hK : K v) : sliceA bl x lo hi K := by
  unfold sliceX at h
  split at h
  · rename_i l hh e1 e2
    obtain ⟨h1, h⟩ := chkX_some h
    simp only [Bool.and_eq_true, decide_eq_true_eq] at h1
    unfold sliceA
    split
    · rename_i l' hh' e1' e2'
      have q1 : some l = some l' := e1.symm.trans e1'
      have q2 : some hh = some hh' := e2.symm.trans e2'
      cases q1
      cases q2
      refine ⟨h1.1, h1.2, ?_⟩
      split at h
      · obtain ⟨h2, h⟩ := chkX_some h
        cases h
        exact ⟨of_decide_eq_true h2, hK⟩
      · split at h
        · rename_i B hB
          obtain ⟨h2, h⟩ := chkX_some h
          obtain ⟨h3, h⟩ := chkX_some h
          cases h
          simp only [hB]
          exact chk_mk h2 ⟨of_decide_eq_true h3, hK⟩
        · cases h
      · split at h
        · rename_i B hB
          obtain ⟨h2, h⟩ := chkX_some h
          obtain ⟨h3, h⟩ := chkX_some h
          cases h
          simp only [hB]
          exact chk_mk h2 ⟨of_decide_eq_true h3, hK⟩
        · cases h
      · cases h
    · rename_i hno
      exact hno l hh e1 e2
  · cases h
def dopX (E : Env) (q : FuncId → List V → Option V) (o : Op) (σ : St) : Option V :=
  match o with
  | .move x | .assign x => some (σ.ev x)
  | .pick c a b => match σ.ev c with
    | .c (.bool true) => some (σ.ev a)
    | .c (.bool false) => some (σ.ev b)
    | _ => none
  | .load T x => match E.ty T with
    | some ti => chkX (ti.agg || ti.size == 1) (match σ.ev x with
      | .c (.p k u sz i o) => match σ.bl[k]? with
        | some B => chkX (B.u == u && (B.sz == sz && (B.st.ble 1 && (o + ti.size).ble sz))) (some (ofCells ti.agg ((List.range ti.size).map fun j => B.f i (o + j))))
        | none => none
      | .c (.xp m f) => chkX (ti.size.ble m) (some (ofCells ti.agg ((List.range ti.size).map f)))
      | _ => none)
    | none => none
  | .fieldAddr T x fld => match E.ty T with
    | some ti => match ti.offs[fld]? with
      | some (some (off, _)) => match σ.ev x with
        | .c (.p k u sz i o) => match σ.bl[k]? with
          | some B => chkX (B.u == u && B.st.ble 1) (some (.c (.p k u sz i (o + off))))
          | none => none
        | .c (.xp m f) => chkX (off.ble m) (some (.c (.xp (m - off) fun j => f (off + j))))
        | _ => none
      | _ => none
    | none => none
  | .indexAddr T x ix => match E.ty T with
    | some ti => match ti.elem with
      | some e => match E.ty e, σ.ev ix with
        | some te, .c (.int _ n) => chkX (decide (0 ≤ n)) (match σ.ev x with
          | .c (.row sz m f) => chkX (decide (n < m)) (chkX (te.size == sz) (some (.c (.xp sz (f n.toNat)))))
          | .c (.gs k u) => match σ.bl[k]? with
            | some B => chkX (decide (n < B.n)) (chkX (B.u == u && (B.st.ble 1 && te.size == B.sz)) (some (.c (.p k u B.sz n.toNat 0))))
            | none => none
          | .c (.sl k u sz o m) => match σ.bl[k]? with
            | some B => chkX (decide (n < m)) (chkX (B.u == u && (B.st.ble 1 && te.size == sz)) (some (.c (.p k u sz (o + n.toNat) 0))))
            | none => none
          | _ => none)
        | _, _ => none
      | none => none
    | none => none
  | .build T parts => match E.ty T with
    | some ti => match fillA σ.bl ti.offs ti.zero (parts.toList.map fun q => (q.1, σ.ev q.2)) with
      | some l => chkX (!ti.offs.isEmpty && ti.offs.all Option.isSome) (some (.g l))
      | none => none
    | none => none
  | .binOp op T x y _ => match σ.ev x, σ.ev y with
    | .c (.int k a), .c (.int k' b) => chkX (decide (k = k') || shiftB op) (binX op k a b)
    | .c (.bool a), .c (.bool b) => match E.ty T with
      | some ti => chkX (ti.kd == 1) (match op with
        | .eql => some (.c (.bool (a == b)))
        | .neq => some (.c (.bool (!(a == b))))
        | _ => none)
      | none => none
    | .c (.row _ n _), .c .nil => match E.ty T with
      | some ti => chkX (ti.elem.isSome && decide (0 < n)) (match op with
        | .eql => some (.c (.bool false))
        | .neq => some (.c (.bool true))
        | _ => none)
      | none => none
    | _, _ => none
  | .unOp op _ x => match op, σ.ev x with
    | .not, .c (.bool b) => some (.c (.bool !b))
    | .neg, .c (.int k n) => some (.c (.int k (k.wrap (-n))))
    | .xor, .c (.int k n) => some (.c (.int k (k.wrap (BitVec.ofInt k.bits (if k.signed then -1 else k.max) ^^^ BitVec.ofInt k.bits n).toNat)))
    | _, _ => none
  | .convert S T x => match E.ty S, E.ty T, σ.ev x with
    | some ts, some ti, .c (.int _ n) => match ts.ik, ti.ik with
      | some _, some k => some (.c (.int k (k.wrap n)))
      | _, _ => none
    | _, _, _ => none
  | .extract x i => extractA (σ.ev x) i
  | .slice T x lo hi none => match E.ty T with
    | some ti => match ti.elem with
      | some e => match E.ty e with
        | some te => chkX (match szA σ.bl (σ.ev x) with | some z => z == te.size | none => false) (sliceX σ.bl (σ.ev x) (lo.map σ.ev) (hi.map σ.ev))
        | none => none
      | none => none
    | none => none
  | .call { callee := .builtin .len, args, argTypes } => match args.toList, argTypes.toList with
    | [x], [T] => match E.ty T, lenA σ.bl (σ.ev x) with
      | some ti, some n => chkX ti.elem.isSome (some (.c (.int .i64 n)))
      | _, _ => none
    | _, _ => none
  | .call { callee := .builtin .max, args, .. } => match args.toList.map σ.ev with
    | [.c (.int k a), .c (.int _ b)] => some (.c (.int k (if b > a then b else a)))
    | _ => none
  | .call { callee := .builtin .min, args, .. } => match args.toList.map σ.ev with
    | [.c (.int k a), .c (.int _ b)] => some (.c (.int k (if b < a then b else a)))
    | _ => none
  | .call { callee := .value g, args, .. } => match calleeA σ g with
    | some f => chkX ((args.toList.map fun x => St.close σ.bl (σ.ev x)).all V.clos) (q f (args.toList.map fun x => St.close σ.bl (σ.ev x)))
    | none => match capsA σ g with
      | some (f, cs) => chkX (((args.toList.map fun x => St.close σ.bl (σ.ev x)) ++ cs.map fun c => V.c (St.closeC σ.bl c)).all V.clos) (q f ((args.toList.map fun x => St.close σ.bl (σ.ev x)) ++ cs.map fun c => V.c (St.closeC σ.bl c)))
      | none => none
  | .index T (.const (.string s)) ix => match E.ty T, σ.ev ix with
    | some ti, .c (.int _ n) => chkX (ti.kd == 2 && decide (0 ≤ n)) (match s[n.toNat]? with
      | some b => some (.c (.int .u8 (b.toNat : Int)))
      | none => none)
    | _, _ => none
  | .makeFunc (.func f) first captured => chkX (first.size == 0) (some (.c (.cl f captured.size (capC σ captured.toList))))
  | .field T x fld => match E.ty T with
    | some ti => match ti.offs[fld]?, σ.ev x with
      | some (some (off, _)), .g l => match l[off]? with
        | some c => chkX (ti.kd == 3) (some (.c c))
        | none => none
      | _, _ => none
    | none => none
  | .nilCheck x => match σ.ev x with
    | .c (.p k u sz i o) => match σ.bl[k]? with
      | some B => chkX (B.u == u && B.st.ble 1) (some (.c (.p k u sz i o)))
      | none => none
    | .c (.xp m f) => some (.c (.xp m f))
    | _ => none
  | _ => none
set_option maxHeartbeats 1000000 in
theorem dopX_ok {E : Env} {q : FuncId → List V → Option V} (hq : ∀ f asl X, q f asl = some X → FnOK E.P E.r f asl X) {o : Oper} {σ : St} {v : V} (h : dopX E q o.op σ = some v) {K : V → Prop} (hK : K v) : dop E o σ K := by
  unfold dop
  unfold dopX at h
  split at h
  case h_1 x hx => rw [hx]; cases h; exact hK
  case h_2 x hx => rw [hx]; cases h; exact hK
  case h_3 c a b hx =>
    rw [hx]
    simp only
    split at h
    · rename_i e; cases h; rw [e]; exact hK
    · rename_i e; cases h; rw [e]; exact hK
    · cases h
  case h_4 T x hx =>
    rw [hx]
    simp only
    split at h
    · rename_i ti ht
      rw [ht]
      obtain ⟨h1, h⟩ := chkX_some h
      refine chk_mk h1 ?_
      split at h
      · rename_i e
        rw [e]
        simp only
        split at h
        · rename_i B hB
          obtain ⟨h2, h⟩ := chkX_some h
          cases h
          simp only [hB]
          exact chk_mk h2 hK
        · cases h
      · rename_i e
        rw [e]
        obtain ⟨h2, h⟩ := chkX_some h
        cases h
        exact chk_mk h2 hK
      · cases h
    · cases h
  case h_5 T x fld hx =>
    rw [hx]
    simp only
    split at h
    · rename_i ti ht
      rw [ht]
      simp only
      split at h
      · rename_i off y ho
        rw [ho]
        simp only
        split at h
        · rename_i e
          rw [e]
          simp only
          split at h
          · rename_i B hB
            obtain ⟨h2, h⟩ := chkX_some h
            cases h
            simp only [hB]
            exact chk_mk h2 hK
          · cases h
        · rename_i e
          rw [e]
          obtain ⟨h2, h⟩ := chkX_some h
          cases h
          exact chk_mk h2 hK
        · cases h
      · cases h
    · cases h
  case h_6 T x ix hx =>
    rw [hx]
    simp only
    split at h
    · rename_i ti ht
      rw [ht]
      simp only
      split at h
      · rename_i e he
        rw [he]
        simp only
        split at h
        · rename_i te kk n hte hn
          rw [hte, hn]
          obtain ⟨h1, h⟩ := chkX_some h
          refine ⟨of_decide_eq_true h1, ?_⟩
          split at h
          · rename_i e1
            rw [e1]
            obtain ⟨h2, h⟩ := chkX_some h
            obtain ⟨h3, h⟩ := chkX_some h
            cases h
            exact ⟨of_decide_eq_true h2, chk_mk h3 hK⟩
          · rename_i e1
            rw [e1]
            simp only
            split at h
            · rename_i B hB
              obtain ⟨h2, h⟩ := chkX_some h
              obtain ⟨h3, h⟩ := chkX_some h
              cases h
              simp only [hB]
              exact ⟨of_decide_eq_true h2, chk_mk h3 hK⟩
            · cases h
          · rename_i e1
            rw [e1]
            simp only
            split at h
            · rename_i B hB
              obtain ⟨h2, h⟩ := chkX_some h
              obtain ⟨h3, h⟩ := chkX_some h
              cases h
              simp only [hB]
              exact ⟨of_decide_eq_true h2, chk_mk h3 hK⟩
            · cases h
          · cases h
        · cases h
      · cases h
    · cases h
  case h_7 T parts hx =>
    rw [hx]
    simp only
    split at h
    · rename_i ti ht
      rw [ht]
      simp only
      split at h
      · rename_i l hl
        rw [hl]
        obtain ⟨h2, h⟩ := chkX_some h
        cases h
        exact chk_mk h2 hK
      · cases h
    · cases h
  case h_8 op T x y T' hx =>
    rw [hx]
    simp only
    split at h
    · rename_i e1 e2
      rw [e1, e2]
      obtain ⟨h2, h⟩ := chkX_some h
      exact chk_mk h2 (binX_ok h hK)
    · rename_i e1 e2
      rw [e1, e2]
      simp only
      split at h
      · rename_i ti ht
        rw [ht]
        obtain ⟨h2, h⟩ := chkX_some h
        refine chk_mk h2 ?_
        unfold boolBin
        split at h
        · cases h; exact hK
        · cases h; exact hK
        · cases h
      · cases h
    · rename_i e1 e2
      rw [e1, e2]
      simp only
      split at h
      · rename_i ti ht
        rw [ht]
        obtain ⟨h2, h⟩ := chkX_some h
        simp only [Bool.and_eq_true, decide_eq_true_eq] at h2
        refine chk_mk h2.1 ⟨h2.2, ?_⟩
        unfold nilBin
        split at h
        · cases h; exact hK
        · cases h; exact hK
        · cases h
      · cases h
    · cases h
  case h_9 op T x hx =>
    rw [hx]
    simp only
    split at h
    · rename_i e; rw [e]; cases h; exact hK
    · rename_i e; rw [e]; cases h; exact hK
    · rename_i e; rw [e]; cases h; exact hK
    · cases h
  case h_10 S T x hx =>
    rw [hx]
    simp only
    split at h
    · rename_i e1 e2 e3
      rw [e1, e2, e3]
      simp only
      split at h
      · rename_i e4 e5
        rw [e4, e5]
        cases h; exact hK
      · cases h
    · cases h
  case h_11 x i hx =>
    rw [hx]
    simp only
    rw [h]
    exact hK
  case h_12 T x lo hi hx =>
    rw [hx]
    simp only
    split at h
    · rename_i ti ht
      rw [ht]
      simp only
      split at h
      · rename_i e he
        rw [he]
        simp only
        split at h
        · rename_i te hte
          rw [hte]
          obtain ⟨h2, h⟩ := chkX_some h
          exact chk_mk h2 (sliceX_ok h hK)
        · cases h
      · cases h
    · cases h
  case h_13 args ts hx =>
    rw [hx]
    simp only
    split at h
    · rename_i x T e1 e2
      rw [e1, e2]
      simp only
      split at h
      · rename_i ti n e3 e4
        rw [e3, e4]
        obtain ⟨h2, h⟩ := chkX_some h
        cases h
        exact chk_mk h2 hK
      · cases h
    · cases h
  case h_14 args ts hx =>
    rw [hx]
    simp only
    split at h
    · rename_i e; rw [e]; cases h; exact hK
    · cases h
  case h_15 args ts hx =>
    rw [hx]
    simp only
    split at h
    · rename_i e; rw [e]; cases h; exact hK
    · cases h
  case h_16 g args ts hx =>
    rw [hx]
    simp only
    split at h
    · rename_i f hf
      rw [hf]
      obtain ⟨h2, h⟩ := chkX_some h
      exact chk_mk h2 ⟨_, hq _ _ _ h, hK⟩
    · rename_i hf
      rw [hf]
      simp only
      split at h
      · rename_i f cs hcs
        rw [hcs]
        obtain ⟨h2, h⟩ := chkX_some h
        exact chk_mk h2 ⟨_, hq _ _ _ h, hK⟩
      · cases h
  case h_17 T s ix hx =>
    rw [hx]
    simp only
    split at h
    · rename_i e1 e2
      rw [e1, e2]
      obtain ⟨h2, h⟩ := chkX_some h
      simp only [Bool.and_eq_true, decide_eq_true_eq] at h2
      refine chk_mk h2.1 ⟨h2.2, ?_⟩
      split at h
      · rename_i b hb
        rw [hb]
        cases h; exact hK
      · cases h
    · cases h
  case h_18 f first captured hx =>
    rw [hx]
    obtain ⟨h2, h⟩ := chkX_some h
    cases h
    exact chk_mk h2 hK
  case h_19 T x fld hx =>
    rw [hx]
    simp only
    split at h
    · rename_i ti ht
      rw [ht]
      simp only
      split at h
      · rename_i off y l ho hv
        rw [ho, hv]
        simp only
        split at h
        · rename_i c hc
          rw [hc]
          obtain ⟨h2, h⟩ := chkX_some h
          cases h
          exact chk_mk h2 hK
        · cases h
      · cases h
    · cases h
  case h_20 x hx =>
    rw [hx]
    simp only
    split at h
    · rename_i e
      rw [e]
      simp only
      split at h
      · rename_i B hB
        obtain ⟨h2, h⟩ := chkX_some h
        cases h
        simp only [hB]
        exact chk_mk h2 hK
      · cases h
    · rename_i e
      rw [e]
      cases h
      exact hK
    · cases h
  case h_21 => cases h
end Go.Proofs.YtmbejakmeijcbaaGreat
/- Abstract operations that make or write blocks, asl functions; regions whose order is open. -/
namespace Go.Proofs.YtmbejakmeijcbaaGreat
open Go.RowKit
def allIJ (n m : Nat) (p : Nat → Nat → Bool) : Bool := (List.range n).all fun i => (List.range m).all fun j => p i j
theorem allIJ_ok {n m : Nat} {p : Nat → Nat → Bool} (h : allIJ n m p = true) {i j : Nat} (hi : i < n) (hj : j < m) : p i j = true :=
  List.all_eq_true.1 (List.all_eq_true.1 h i (List.mem_range.2 hi)) j (List.mem_range.2 hj)
def appKX (E : Env) (dst : Option Nat) (σ : St) (k u : Nat) (e : TypeId) (te : TI) (y : V) : Option St :=
  match σ.bl[k]?, srcA σ.bl te.size k y with
  | some B, some (m, fy) => chkX (B.u == u && (B.st == 0 && (B.sz == te.size && B.t == e))) (chkX (decide (B.n + m ≤ 16777216) && allIJ m te.size fun i j => St.one σ.bl (fy i j) && (!E.r || (fy i j).noU)) (some (St.put { σ with bl := σ.bl.set k ⟨B.t, B.sz, B.n + m, B.u + 1, 0, appF B.n B.f fy⟩ } dst (.c (.gs k (u + 1))))))
  | _, _ => none
theorem appKX_ok {E : Env} {dst : Option Nat} {σ σ' : St} {k u : Nat} {e : TypeId} {te : TI} {y : V} (h : appKX E dst σ k u e te y = some σ') {K : St → Prop} (hK : K σ') : appK E dst σ k u e te y K := by
  unfold appKX at h
  unfold appK
  split at h
  · rename_i B m fy e1 e2
    rw [e1, e2]
    obtain ⟨h1, h⟩ := chkX_some h
    obtain ⟨h2, h⟩ := chkX_some h
    cases h
    simp only [Bool.and_eq_true, decide_eq_true_eq] at h2
    refine chk_mk h1 ⟨h2.1, fun i j hi hj => ?_, hK⟩
    have := allIJ_ok h2.2 hi hj
    simp only [Bool.and_eq_true, Bool.or_eq_true, Bool.not_eq_true'] at this
    exact ⟨this.1, fun hr => this.2.resolve_left (by rw [hr]; simp)⟩
  · cases h
def appX (E : Env) (dst : Option Nat) (σ : St) (args : List Operand) (ts : List TypeId) : Option St := match args, ts with
  | [x, y], [T, T'] => match E.ty T with
    | some ti => match ti.elem with
      | some e => match E.ty e with
        | some te => chkX (((E.ty T').bind (·.elem) == some e) && (te.zero.length == te.size && ((1 : Nat).ble te.size && ((!E.r || te.zero.all Cell.noU) && te.bytes.ble 8388608)))) (match σ.ev x with
          | .c (.gs k u) => appKX E dst σ k u e te (σ.ev y)
          | .c .nil => appKX E dst (nilB σ e te.size) σ.bl.length 0 e te (σ.ev y)
          | _ => none)
        | none => none
      | none => none
    | none => none
  | _, _ => none
theorem appX_ok {E : Env} {dst : Option Nat} {σ σ' : St} {args : List Operand} {ts : List TypeId} (h : appX E dst σ args ts = some σ') {K : St → Prop} (hK : K σ') : appA E dst σ args ts K := by
  unfold appX at h
  unfold appA
  split at h
  · split at h
    · rename_i ti ht
      simp only [ht]
      split at h
      · rename_i e he
        simp only [he]
        split at h
        · rename_i te hte
          simp only [hte]
          obtain ⟨h1, h⟩ := chkX_some h
          refine chk_mk h1 ?_
          split at h
          · rename_i e1; rw [e1]; exact appKX_ok h hK
          · rename_i e1; rw [e1]; exact appKX_ok h hK
          · cases h
        · cases h
      · cases h
    · cases h
  · cases h
def frz1X (σ : St) (x : V) : Option St :=
  match x with
  | .c (.gs k _) | .c (.sl k _ _ _ _) | .c (.p k _ _ _ _) => match σ.bl[k]? with
    | some B => match B.st with
      | 0 => chkX (allIJ B.n B.sz fun i j => (B.f i j).clos) (some { σ with bl := σ.bl.set k { B with st := 1 } })
      | _ => some σ
    | none => some σ
  | _ => some σ
theorem frz1X_ok {σ σ' : St} {x : V} (h : frz1X σ x = some σ') {K : St → Prop} (hK : K σ') : frz1 σ x K := by
  unfold frz1X at h
  unfold frz1
  split at h
  all_goals first
    | (split at h
       · rename_i B hB
         simp only [hB]
         split at h
         · rename_i hst
           obtain ⟨h1, h⟩ := chkX_some h
           cases h
           rw [hst]
           exact ⟨fun i j hi hj => allIJ_ok h1 hi hj, hK⟩
         · rename_i hst
           cases h
           split
           · rename_i e; exact absurd e hst
           · exact hK
       · rename_i hB
         cases h
         simp only [hB]
         exact hK)
    | (rename_i h1 h2 h3
       cases h
       split
       · exact absurd rfl (h1 _ _)
       · exact absurd rfl (h2 _ _ _ _ _)
       · exact absurd rfl (h3 _ _ _ _ _)
       · exact hK)
def frzAX : List V → St → Option St
  | [], σ => some σ
  | x :: l, σ => match frz1X σ x with
    | some σ' => frzAX l σ'
    | none => none
theorem frzAX_ok : ∀ (l : List V) {σ σ' : St}, frzAX l σ = some σ' → ∀ {K : St → Prop}, K σ' → frzA l σ K
  | [], _, _, h, _, hK => by cases h; exact hK
  | x :: l, σ, σ', h, K, hK => by
    simp only [frzAX] at h
    split at h
    · rename_i σ1 h1
      exact frz1X_ok h1 (frzAX_ok l h hK)
    · cases h
def aopX (E : Env) (q : FuncId → List V → Option V) (o : Oper) (σ : St) : Option St :=
  match o.op with
  | .box T x => match cellsV σ.bl E.r (σ.ev x) with
    | some l => some ((σ.push ⟨T, l.length, 1, 0, 0, boxF l⟩).put o.dst (.c (.p σ.bl.length 0 l.length 0 0)))
    | none => none
  | .alloc T => match E.ty T with
    | some ti => match cellsV σ.bl E.r (.g ti.zero) with
      | some l => some ((σ.push ⟨T, l.length, 1, 0, 0, boxF l⟩).put o.dst (.c (.p σ.bl.length 0 l.length 0 0)))
      | none => none
    | none => none
  | .store T x y => match E.ty T, σ.ev x, cellsV σ.bl E.r (σ.ev y) with
    | some ti, .c (.p k u sz i o'), some l => match σ.bl[k]? with
      | some B => chkX (B.u == u && (B.sz == sz && (B.st == 0 && (l.length == ti.size && (o' + l.length).ble sz)))) (some (St.put { σ with bl := σ.bl.set k { B with f := updF B.f i o' l } } o.dst (.c .any)))
      | none => none
    | _, _, _ => none
  | .makeSlice T ln cp => match E.ty T with
    | some ti => match ti.elem with
      | some e => match E.ty e, σ.ev ln, σ.ev cp with
        | some te, .c (.int _ n), .c (.int _ c) => chkX (decide (0 ≤ n) && (decide (n ≤ c) && (decide (c ≤ 281474976710656) && (decide ((te.bytes : Int) * c ≤ 281474976710656) && te.zero.length == te.size)))) (match cellsV σ.bl E.r (.g te.zero) with
          | some l => some ((σ.push ⟨e, te.size, n.toNat, 0, 0, zeroF l⟩).put o.dst (.c (.gs σ.bl.length 0)))
          | none => none)
        | _, _, _ => none
      | none => none
    | none => none
  | .buildSlice T len parts => match E.ty T with
    | some ti => match ti.elem with
      | some e => match E.ty e with
        | some te => chkX (len.ble 16777216 && (len * te.size).ble 16777216) (match fillA σ.bl ((List.range len).map fun i => some (i * te.size, te.size)) (List.replicate (len * te.size) .any) (parts.toList.map fun q => (q.1, σ.ev q.2)) with
          | some l => match cellsV σ.bl E.r (.g l) with
            | some l => some ((σ.push ⟨e, te.size, len, 0, 0, rowF te.size l⟩).put o.dst (.c (.gs σ.bl.length 0)))
            | none => none
          | none => none)
        | none => none
      | none => none
    | none => none
  | .call { callee := .value g, args, .. } => match wrB σ g with
    | true => none
    | false => match frzAX (args.toList.flatMap fun x => partsV (σ.ev x)) σ with
      | some σ' => match dopX E q o.op σ' with
        | some v => some (σ'.put o.dst v)
        | none => none
      | none => none
  | .call { callee := .builtin .append, args, argTypes } => appX E o.dst σ args.toList argTypes.toList
  | op => match dopX E q op σ with
    | some v => some (σ.put o.dst v)
    | none => none
set_option maxHeartbeats 1000000 in
theorem aopX_ok {E : Env} {q : FuncId → List V → Option V} (hq : ∀ f asl X, q f asl = some X → FnOK E.P E.r f asl X) {o : Oper} {σ σ' : St} (h : aopX E q o σ = some σ') {K : St → Prop} (hK : K σ') : aop E o σ K := by
  unfold aopX at h
  unfold aop
  split at h
  case h_1 T x hx =>
    rw [hx]
    simp only
    split at h
    · rename_i l hl
      rw [hl]
      cases h; exact hK
    · cases h
  case h_2 T hx =>
    rw [hx]
    simp only
    split at h
    · rename_i ti ht
      rw [ht]
      simp only
      split at h
      · rename_i l hl
        rw [hl]
        cases h; exact hK
      · cases h
    · cases h
  case h_3 T x y hx =>
    rw [hx]
    simp only
    split at h
    · rename_i e1 e2 e3
      rw [e1, e2, e3]
      simp only
      split at h
      · rename_i B hB
        obtain ⟨h1, h⟩ := chkX_some h
        cases h
        simp only [hB]
        exact chk_mk h1 hK
      · cases h
    · cases h
  case h_4 T ln cp hx =>
    rw [hx]
    simp only
    split at h
    · rename_i ti ht
      rw [ht]
      simp only
      split at h
      · rename_i e he
        rw [he]
        simp only
        split at h
        · rename_i e1 e2 e3
          rw [e1, e2, e3]
          obtain ⟨h1, h⟩ := chkX_some h
          simp only [Bool.and_eq_true, decide_eq_true_eq] at h1
          refine ⟨h1.1, h1.2.1, h1.2.2.1, h1.2.2.2.1, chk_mk h1.2.2.2.2 ?_⟩
          split at h
          · rename_i l hl
            rw [hl]
            cases h; exact hK
          · cases h
        · cases h
      · cases h
    · cases h
  case h_5 T len parts hx =>
    rw [hx]
    simp only
    split at h
    · rename_i ti ht
      rw [ht]
      simp only
      split at h
      · rename_i e he
        rw [he]
        simp only
        split at h
        · rename_i te hte
          rw [hte]
          obtain ⟨h1, h⟩ := chkX_some h
          refine chk_mk h1 ?_
          split at h
          · rename_i l hl
            rw [hl]
            simp only
            split at h
            · rename_i l' hl'
              rw [hl']
              cases h; exact hK
            · cases h
          · cases h
        · cases h
      · cases h
    · cases h
  case h_6 g args ts hx =>
    rw [hx]
    simp only
    split at h
    · cases h
    · rename_i e
      rw [e]
      simp only
      split at h
      · rename_i σ1 h1
        split at h
        · rename_i v hv
          cases h
          exact frzAX_ok _ h1 (dopX_ok hq hv hK)
        · cases h
      · cases h
  case h_7 args ts hx =>
    rw [hx]
    exact appX_ok h hK
  case h_8 h1 h2 h3 h4 h5 h6 h7 =>
    split at h
    · rename_i v hv
      cases h
      have hd := dopX_ok hq (o := o) hv (K := fun v => K (σ.put o.dst v)) hK
      split
      case h_1 hx => exact absurd hx (h1 _ _)
      case h_2 hx => exact absurd hx (h2 _)
      case h_3 hx => exact absurd hx (h3 _ _ _)
      case h_4 hx => exact absurd hx (h4 _ _ _)
      case h_5 hx => exact absurd hx (h5 _ _ _)
      case h_6 hx => exact absurd hx (h6 _ _ _)
      case h_7 hx => exact absurd hx (h7 _ _)
      case h_8 => exact hd
    · cases h
def appSX (E : Env) (σ : St) (fr : Nat) (args : List Operand) (ts : List TypeId) : Option (V × Option (Nat × Blk)) := match args, ts with
  | [x, y], [T, T'] => match E.ty T with
    | some ti => match ti.elem with
      | some e => match E.ty e with
        | some te => chkX (T == T' && (te.zero.length == te.size && ((1 : Nat).ble te.size && ((!E.r || te.zero.all Cell.noU) && te.bytes.ble 8388608)))) (match σ.ev x with
          | .c (.gs k u) => match σ.bl[k]?, srcA σ.bl te.size k (σ.ev y) with
            | some B, some (m, fy) => chkX (B.u == u && (B.st == 0 && (B.sz == te.size && B.t == e))) (chkX (decide (B.n + m ≤ 16777216) && allIJ m te.size fun i j => St.one [] (fy i j) && (!E.r || (fy i j).noU)) (some (.c (.gs k (u + 1)), some (k, ⟨B.t, B.sz, B.n + m, B.u + 1, 0, appF B.n B.f fy⟩))))
            | _, _ => none
          | .c .nil => match srcA σ.bl te.size fr (σ.ev y) with
            | some (m, fy) => chkX (decide (m ≤ 16777216) && allIJ m te.size fun i j => St.one [] (fy i j) && (!E.r || (fy i j).noU)) (some (.c (.gs fr 1), some (fr, ⟨e, te.size, 0 + m, 1, 0, appF 0 (fun _ _ => .any) fy⟩)))
            | none => none
          | _ => none)
        | none => none
      | none => none
    | none => none
  | _, _ => none
theorem appSX_ok {E : Env} {σ : St} {fr : Nat} {args : List Operand} {ts : List TypeId} {v : V} {ub : Option (Nat × Blk)} (h : appSX E σ fr args ts = some (v, ub)) {K : V → Option (Nat × Blk) → Prop} (hK : K v ub) : appS E σ fr args ts K := by
  have all : ∀ {m sz : Nat} {fy : Nat → Nat → Cell}, (allIJ m sz fun i j => St.one [] (fy i j) && (!E.r || (fy i j).noU)) = true → ∀ i j, i < m → j < sz → St.one [] (fy i j) = true ∧ (E.r = true → (fy i j).noU = true) := by
    intro m sz fy h i j hi hj
    have := allIJ_ok h hi hj
    simp only [Bool.and_eq_true, Bool.or_eq_true, Bool.not_eq_true'] at this
    exact ⟨this.1, fun hr => this.2.resolve_left (by rw [hr]; simp)⟩
  unfold appSX at h
  unfold appS
  split at h
  · split at h
    · rename_i ti ht
      simp only [ht]
      split at h
      · rename_i e he
        simp only [he]
        split at h
        · rename_i te hte
          simp only [hte]
          obtain ⟨h1, h⟩ := chkX_some h
          refine chk_mk h1 ?_
          split at h
          · rename_i e1
            rw [e1]
            simp only
            split at h
            · rename_i B m fy e2 e3
              rw [e2, e3]
              obtain ⟨h2, h⟩ := chkX_some h
              obtain ⟨h3, h⟩ := chkX_some h
              cases h
              simp only [Bool.and_eq_true, decide_eq_true_eq] at h3
              exact chk_mk h2 ⟨h3.1, all h3.2, hK⟩
            · cases h
          · rename_i e1
            rw [e1]
            simp only
            split at h
            · rename_i m fy e3
              rw [e3]
              obtain ⟨h3, h⟩ := chkX_some h
              cases h
              simp only [Bool.and_eq_true, decide_eq_true_eq] at h3
              exact ⟨h3.1, all h3.2, hK⟩
            · cases h
          · cases h
        · cases h
      · cases h
    · cases h
  · cases h
def sopX (E : Env) (q : FuncId → List V → Option V) (cl : Bool) (o : Oper) (σ : St) (fr : Nat) : Option (V × Option (Nat × Blk)) :=
  match o.op with
  | .box T x => match cellsV σ.bl E.r (σ.ev x) with
    | some l => some (.c (.p fr 1 l.length 0 0), some (fr, ⟨T, l.length, 1, 1, 0, boxF l⟩))
    | none => none
  | .alloc T => match E.ty T with
    | some ti => match cellsV σ.bl E.r (.g ti.zero) with
      | some l => some (.c (.p fr 1 l.length 0 0), some (fr, ⟨T, l.length, 1, 1, 0, boxF l⟩))
      | none => none
    | none => none
  | .store T x y => match E.ty T, σ.ev x, cellsV σ.bl E.r (σ.ev y) with
    | some ti, .c (.p k u sz i o'), some l => match σ.bl[k]? with
      | some B => chkX (B.u == u && (B.sz == sz && (B.st == 0 && (l.length == ti.size && (o' + l.length).ble sz)))) (some (.c .any, some (k, { B with f := updF B.f i o' l })))
      | none => none
    | _, _, _ => none
  | .makeSlice T ln cp => match E.ty T with
    | some ti => match ti.elem with
      | some e => match E.ty e, σ.ev ln, σ.ev cp with
        | some te, .c (.int _ n), .c (.int _ c) => chkX (decide (0 ≤ n) && (decide (n ≤ c) && (decide (c ≤ 281474976710656) && (decide ((te.bytes : Int) * c ≤ 281474976710656) && te.zero.length == te.size)))) (match cellsV σ.bl E.r (.g te.zero) with
          | some l => some (.c (.gs fr 1), some (fr, ⟨e, te.size, n.toNat, 1, 0, zeroF l⟩))
          | none => none)
        | _, _, _ => none
      | none => none
    | none => none
  | .buildSlice T len parts => match E.ty T with
    | some ti => match ti.elem with
      | some e => match E.ty e with
        | some te => chkX (len.ble 16777216 && (len * te.size).ble 16777216) (match fillA σ.bl ((List.range len).map fun i => some (i * te.size, te.size)) (List.replicate (len * te.size) .any) (parts.toList.map fun q => (q.1, σ.ev q.2)) with
          | some l => match cellsV σ.bl E.r (.g l) with
            | some l => match cl with
              | true => chkX (l.all Cell.clos) (some (.c (.row te.size len (rowF te.size l)), none))
              | false => some (.c (.gs fr 1), some (fr, ⟨e, te.size, len, 1, 0, rowF te.size l⟩))
            | none => none
          | none => none)
        | none => none
      | none => none
    | none => none
  | .call { callee := .value (.func f), args, argTypes } => match wrF f with
    | true => none
    | false => match frS f with
      | true => none
      | false => match dopX E q (.call { callee := .value (.func f), args, argTypes }) σ with
        | some v => some (v, none)
        | none => none
  | .call { callee := .builtin .append, args, argTypes } => appSX E σ fr args.toList argTypes.toList
  | op => match dopX E q op σ with
    | some v => some (v, none)
    | none => none
set_option maxHeartbeats 1000000 in
theorem sopX_ok {E : Env} {q : FuncId → List V → Option V} (hq : ∀ f asl X, q f asl = some X → FnOK E.P E.r f asl X) {cl : Bool} {o : Oper} {σ : St} {fr : Nat} {v : V} {ub : Option (Nat × Blk)} (h : sopX E q cl o σ fr = some (v, ub)) {K : V → Option (Nat × Blk) → Prop} (hK : K v ub) : sop E o σ fr K := by
  unfold sopX at h
  unfold sop
  split at h
  case h_1 T x hx =>
    rw [hx]
    simp only
    split at h
    · rename_i l hl
      rw [hl]
      cases h; exact hK
    · cases h
  case h_2 T hx =>
    rw [hx]
    simp only
    split at h
    · rename_i ti ht
      rw [ht]
      simp only
      split at h
      · rename_i l hl
        rw [hl]
        cases h; exact hK
      · cases h
    · cases h
  case h_3 T x y hx =>
    rw [hx]
    simp only
    split at h
    · rename_i e1 e2 e3
      rw [e1, e2, e3]
      simp only
      split at h
      · rename_i B hB
        obtain ⟨h1, h⟩ := chkX_some h
        cases h
        simp only [hB]
        exact chk_mk h1 hK
      · cases h
    · cases h
  case h_4 T ln cp hx =>
    rw [hx]
    simp only
    split at h
    · rename_i ti ht
      rw [ht]
      simp only
      split at h
      · rename_i e he
        rw [he]
        simp only
        split at h
        · rename_i e1 e2 e3
          rw [e1, e2, e3]
          obtain ⟨h1, h⟩ := chkX_some h
          simp only [Bool.and_eq_true, decide_eq_true_eq] at h1
          refine ⟨h1.1, h1.2.1, h1.2.2.1, h1.2.2.2.1, chk_mk h1.2.2.2.2 ?_⟩
          split at h
          · rename_i l hl
            rw [hl]
            cases h; exact hK
          · cases h
        · cases h
      · cases h
    · cases h
  case h_5 T len parts hx =>
    rw [hx]
    simp only
    split at h
    · rename_i ti ht
      rw [ht]
      simp only
      split at h
      · rename_i e he
        rw [he]
        simp only
        split at h
        · rename_i te hte
          rw [hte]
          obtain ⟨h1, h⟩ := chkX_some h
          refine chk_mk h1 ?_
          split at h
          · rename_i l hl
            rw [hl]
            simp only
            split at h
            · rename_i l' hl'
              rw [hl']
              split at h
              · obtain ⟨h2, h⟩ := chkX_some h
                cases h
                exact .inr ⟨h2, hK⟩
              · cases h; exact .inl hK
            · cases h
          · cases h
        · cases h
      · cases h
    · cases h
  case h_6 f args ts hx =>
    rw [hx]
    simp only
    split at h
    · cases h
    · rename_i e
      rw [e]
      simp only
      split at h
      · cases h
      · rename_i e2
        rw [e2]
        simp only
        split at h
        · rename_i v' hv
          have hv' : dopX E q o.op σ = some v' := by rw [hx]; exact hv
          cases h
          exact dopX_ok hq hv' hK
        · cases h
  case h_7 args ts hx =>
    rw [hx]
    exact appSX_ok h hK
  case h_8 h1 h2 h3 h4 h5 h6 h7 =>
    split at h
    · rename_i v' hv
      cases h
      have hd := dopX_ok hq (o := o) hv (K := fun v => K v none) hK
      split
      case h_1 hx => exact absurd hx (h1 _ _)
      case h_2 hx => exact absurd hx (h2 _)
      case h_3 hx => exact absurd hx (h3 _ _ _)
      case h_4 hx => exact absurd hx (h4 _ _ _)
      case h_5 hx => exact absurd hx (h5 _ _ _)
      case h_6 hx => exact absurd hx (h6 _ _ _)
      case h_7 hx => exact absurd hx (h7 _ _)
      case h_8 => exact hd
    · cases h
def isTmp (d : Nat) : Operand → Bool
  | .tmp t => Nat.beq t d
  | _ => false
def argOnlyF (ops : Array Oper) : Nat → Option Nat → Bool
  | 0, _ => false
  | _, none => false
  | k + 1, some d => ops.any fun o => match o.op with
    | .call { callee := .value _, args, .. } => args.any (isTmp d)
    | .buildSlice _ _ parts | .build _ parts => (parts.any fun p => isTmp d p.2) && argOnlyF ops k o.dst
    | _ => false
def argOnly (ops : Array Oper) (dst : Option Nat) : Bool := argOnlyF ops 4 dst
def aheadX (E : Env) (q : FuncId → List V → Option V) (ops : Array Oper) (n0 : Nat) : List Oper → Nat → St → Option St
  | [], _, σ => some σ
  | o :: rest, i, σ => match o.guard with
    | none => match sopX E q (argOnly ops o.dst) o σ (n0 + i) with
      | some (v, ub) => chkX (lateB ops o σ ub) (aheadX E q ops n0 rest (i + 1) (St.put { σ with bl := setO σ.bl ub } o.dst v))
      | none => none
    | some (g, want) => match guardV σ ops g with
      | some (_, b) => match gw want b with
        | true => match sopX E q (argOnly ops o.dst) o σ (n0 + i) with
          | some (v, ub) => chkX (lateB ops o σ ub) (aheadX E q ops n0 rest (i + 1) (St.put { σ with bl := setO σ.bl ub } o.dst v))
          | none => none
        | false => aheadX E q ops n0 rest (i + 1) (σ.put o.dst (.c .any))
      | none => none
theorem aheadX_ok {E : Env} {q : FuncId → List V → Option V} (hq : ∀ f asl X, q f asl = some X → FnOK E.P E.r f asl X) {ops : Array Oper} {n0 : Nat} : ∀ (l : List Oper) (i : Nat) {σ σ' : St}, aheadX E q ops n0 l i σ = some σ' → ∀ {K : St → Prop}, K σ' → ahead E ops n0 l i σ K
  | [], _, _, _, h, _, hK => by cases h; exact hK
  | o :: rest, i, σ, σ', h, K, hK => by
    simp only [aheadX] at h
    rw [ahead_eq]
    split at h
    · rename_i hg
      rw [hg]
      simp only
      split at h
      · rename_i v ub hs
        obtain ⟨h0, h⟩ := chkX_some h
        exact sopX_ok hq hs (K := fun v ub => chk (lateB ops o σ ub) (ahead E ops n0 rest (i + 1) (St.put { σ with bl := setO σ.bl ub } o.dst v) K)) (chk_mk h0 (aheadX_ok hq rest (i + 1) h hK))
      · cases h
    · rename_i g want hg
      rw [hg]
      simp only
      split at h
      · rename_i d b hgv
        rw [hgv]
        simp only
        split at h
        · rename_i hb
          rw [hb]
          rw [← gw_true.1 hb, guard_same hgv]
          split at h
          · rename_i v ub hs
            obtain ⟨h0, h⟩ := chkX_some h
            exact sopX_ok hq hs (K := fun v ub => chk (lateB ops o σ ub) (ahead E ops n0 rest (i + 1) (St.put { σ with bl := setO σ.bl ub } o.dst v) K)) (chk_mk h0 (aheadX_ok hq rest (i + 1) h hK))
          · cases h
        · rename_i hb
          rw [hb]
          rw [← gw_false.1 hb, guard_same hgv]
          exact aheadX_ok hq rest (i + 1) h hK
      · cases h
end Go.Proofs.YtmbejakmeijcbaaGreat
