/- Matrices in the program: rows stored. -/
import Derived.Test.YtigciplaoikcfaaGreatRfN
import Derived.Test.YtigciplaoikcfaaGreatCut
import Derived.Test.YtigciplaoikcfaaGreatNfO
import Derived.Test.YtigciplaoikcfaaGreatSpE
namespace Go.Proofs.YtigciplaoikcfaaGreat
open Go.RowKit
namespace Rf
theorem one_ql {bl : List Blk} {c : Nat → RawR} (r : Bool) (i j : Nat) (hj : j < 4) : St.one bl (qlF c i j) = true ∧ (r = true → (qlF c i j).noU = true) := by
  match j, hj with
  | 0, _ => exact ⟨rfl, fun _ => rfl⟩
  | 1, _ => exact ⟨rfl, fun _ => rfl⟩
  | 2, _ => exact ⟨rfl, fun _ => rfl⟩
  | 3, _ => exact ⟨rfl, fun _ => rfl⟩
/-- A row is added to the places of a matrix. -/
theorem row_in {n m i a b : Nat} {G : Nat → Nat → Rat} (hi : i < n) (ha : a < i * m + m) : appF (i * m) (qlF fun k => ofR (G (k / m) (k % m))) (qlF fun k => ofR (G i k)) a b = qlF (fun k => ofR (G (k / m) (k % m))) a b := by
  unfold appF
  split
  · rfl
  · rename_i h
    obtain ⟨j, rfl⟩ : ∃ j, a = i * m + j := ⟨a - i * m, by omega⟩
    obtain ⟨_, e2, e3⟩ := mat_idx hi (show j < m by omega)
    refine qlF_eq ?_
    rw [e2, e3, show i * m + j - i * m = j by omega]
set_option maxHeartbeats 8000000 in
theorem store_ok {n m : Nat} {G : Nat → Nat → Rat} (hn : n ≤ 64) (hm : m ≤ 64) : FnOK Tryz.prog true 77 [.c (.int .i64 m), .c (rowsC n m G)] (.g (matL n m G)) := by
  have hnm : ∀ i, i ≤ n → i * m ≤ 4096 := fun i hi => Nat.le_trans (Nat.mul_le_mul (show i ≤ 64 by omega) hm) (by decide)
  refine fn_ok (E := E1) E1_ok Tryz.func77 rfl mixed (by kernel_rfl) (by kernel_rfl) ?_
  conv => whnf
  refine loop_ints (fun i : Nat => gst [(4, .c (.p 0 0 3 0 0)), (5, .c (.p 1 0 3 0 0)), (12, .c (rowsC n m G)), (13, .c (.int .i64 n)), (14, .c (.int .i64 i))] [⟨25, 3, 1, boxF [.int .i64 0, .int .i64 0, .nil]⟩, ⟨25, 3, 1, boxF [.int .i64 n, .int .i64 m, .gs 2 0]⟩, gqr (i * m) fun k => ofR (G (k / m) (k % m))]) (fun i => n - i) (fun i => i ≤ n) 0 rfl ?_ (Nat.zero_le _) fun i hi => ?_
  · refine Weak.gen [some 0, some 1, none] rfl ⟨boxK rfl rfl, ⟨_, rfl, rfl, rfl, rfl, rfl, fun a b ha hb => by
      obtain rfl := Nat.lt_one_iff.1 ha
      match b, hb with
      | 0, _ => exact ⟨_, rfl, rfl⟩
      | 1, _ => exact ⟨_, rfl, rfl⟩
      | 2, _ => exact rfl⟩, Nat.zero_mul m, trivial⟩ ⟨⟨_, rfl, rfl, rfl⟩, ⟨_, rfl, rfl, rfl⟩, .inl ⟨_, _, rfl, rfl, fun _ _ _ _ => rfl⟩, ⟨_, rfl, rfl⟩, ⟨_, rfl, rfl⟩, trivial⟩
  have e1 := hnm i hi
  conv => whnf
  refine bcase (fun (h : decide ((i : Int) < n) = true) => ?_) fun (h : decide ((i : Int) < n) = false) => ?_
  · have h := of_decide_eq_true h
    have hin : i < n := by omega
    conv => whnf
    refine ⟨by omega, by omega, ?_⟩
    conv => whnf
    refine ⟨by show i * m + m ≤ 16777216; omega, fun a b ha hb => one_ql (c := fun k => ofR (G i k)) _ a b hb, ?_⟩
    conv => whnf
    refine ⟨i64 (by omega) (by omega), ?_⟩
    conv => whnf
    exact ⟨i + 1, by omega, Weak.gen [some 0, some 1, some 2] rfl ⟨boxK rfl rfl, ⟨_, rfl, rfl, rfl, rfl, rfl, fun a b ha hb => by
      obtain rfl := Nat.lt_one_iff.1 ha
      match b, hb with
      | 0, _ => exact ⟨_, rfl, rfl⟩
      | 1, _ => exact ⟨_, rfl, rfl⟩
      | 2, _ => exact ⟨_, rfl, rfl, rfl⟩⟩, ⟨_, rfl, rfl, rfl, (Nat.succ_mul i m).symm, rfl, fun a b ha hb => regE (row_in hin (by have ha : a < (i + 1) * m := ha; rwa [Nat.succ_mul] at ha)) (ql_clos (c := fun k => ofR (G (k / m) (k % m))) a b)⟩, trivial⟩ ⟨⟨_, rfl, rfl, rfl⟩, ⟨_, rfl, rfl, rfl⟩, .inl ⟨_, _, rfl, rfl, fun _ _ _ _ => rfl⟩, ⟨_, rfl, rfl⟩, ⟨_, rfl, rfl⟩, trivial⟩, by omega⟩
  · have h := of_decide_eq_false h
    have e : i = n := by omega
    have g : Sub (.g [.int .i64 n, .int .i64 m, .row 4 (i * m) (qlF fun k => ofR (G (k / m) (k % m)))]) (.g (matL n m G)) := by rw [e]; exact Sub.refl _
    conv => whnf
    refine ⟨fun a b _ _ => ql_clos (c := fun k => ofR (G (k / m) (k % m))) a b, ?_⟩
    conv => whnf
    exact ⟨rfl, g⟩
end Rf
end Go.Proofs.YtigciplaoikcfaaGreat
/- Matrices in the program: rows loaded. -/
namespace Go.Proofs.YtigciplaoikcfaaGreat
open Go.RowKit
namespace Rf
/-- What is told of the cells of a grid: rows, then nothing. -/
structure Grd (m : Nat) (G : Nat → Nat → Rat) (F C : Nat → Nat → Cell) : Prop where
  old : ∀ i k, k < i → F i k = nql m (G k)
  new : ∀ i k, i ≤ k → F i k = .nil
  old' : ∀ i k, k < i → C i k = nql m (G k)
  at' : ∀ i, C i i = .gs 2 0
  new' : ∀ i k, i < k → C i k = .nil
theorem grd (m : Nat) (G : Nat → Nat → Rat) : ∃ F C, Grd m G F C :=
  ⟨fun i k => if k < i then nql m (G k) else .nil, fun i k => if k < i then nql m (G k) else if k = i then .gs 2 0 else .nil,
    fun _ _ h => if_pos h, fun _ _ h => if_neg (by omega), fun _ _ h => if_pos h, fun i => by
      show (if i < i then _ else if i = i then _ else _) = _
      rw [if_neg (Nat.lt_irrefl i), if_pos rfl], fun i k h => by
      show (if k < i then _ else if k = i then _ else _) = _
      rw [if_neg (by omega), if_neg (by omega)]⟩
abbrev gGrid (n : Nat) (f : Nat → Cell) : Gx := ⟨22, 1, n, fun k _ => f k⟩
theorem cell_keep {q : Nat} {bl : List Blk} {ks : List (Option Nat)} {m i : Nat} {G : Nat → Nat → Rat} {F C : Nat → Nat → Cell} (hg : Grd m G F C) (k : Nat) {g : Nat → Cell} (hgs : regC q bl ks (.gs 2 0) fun y => Cell.gs 2 0 = y) (e : g = C i) : regC q bl ks (C i k) fun y => g k = y := by
  subst e
  rcases Nat.lt_trichotomy k i with c | c | c
  · rw [hg.old' i k c]; exact regE rfl rfl
  · subst c; rw [hg.at']; exact hgs
  · rw [hg.new' i k c]; exact regE rfl rfl
set_option maxHeartbeats 16000000 in
theorem load_ok {n m : Nat} {G : Nat → Nat → Rat} (hn : n ≤ 64) (hm : m ≤ 64) (hq : ∀ i j, i < n → j < m → qlen (G i j) ≤ KD) : FnOK Tryz.prog true 80 [.g (matL n m G)] (.c (rowsC n m G)) := by
  obtain ⟨F, C, hg⟩ := grd m G
  have hnm : ∀ i, i ≤ n → (i : Int) * (m : Int) = ((i * m : Nat) : Int) ∧ i * m ≤ 4096 := fun i hi => ⟨by rw [Int.natCast_mul], Nat.le_trans (Nat.mul_le_mul (show i ≤ 64 by omega) hm) (by decide)⟩
  have n1 : ∀ i j, i < n → j < m → FnOK Tryz.prog true 74 [.g (nq (G (((i : Int) * (m : Int) + (j : Int)).toNat / m) (((i : Int) * (m : Int) + (j : Int)).toNat % m)))] (.g (nq (G i j))) := fun i j hi hj => by
    have e1 := (hnm i (by omega)).1
    obtain ⟨_, e2, e3⟩ := mat_idx hi hj
    rw [show ((i : Int) * (m : Int) + (j : Int)).toNat = i * m + j by rw [e1]; omega, e2, e3]
    have := qnormal_ok (q := ofR (G i j)) (ofR_fit (hq i j hi hj)) (by decide)
    rwa [ofR_val] at this
  clear hq
  refine fn_okS (E := E1) E1_ok Tryz.func80 rfl (by kernel_rfl) ?_
  refine swp_seq0 E1_ok mixed (by kernel_rfl) ?_
  conv => whnf
  refine swp_seq0 E1_ok mixed (by kernel_rfl) ?_
  conv => whnf
  refine ⟨by omega, Int.le_refl _, by omega, by show (24 : Int) * (n : Int) ≤ 281474976710656; omega, ?_⟩
  conv => whnf
  refine swp_seqS ?_
  refine swp_seq0 E1_ok mixed (by kernel_rfl) ?_
  conv => whnf
  refine swp_block ?_
  refine swp_loop (fun i : Nat => gst [(1, .c (.p 0 0 3 0 0)), (3, .c (.gs 1 0)), (10, .c (.int .i64 n)), (11, .c (.int .i64 i))] [⟨25, 3, 1, boxF (matL n m G)⟩, gGrid n (F i)]) (fun i => n - i) (fun i => i ≤ n) 0 ?_ (Nat.zero_le _) fun i hi => ?_
  · refine Weak.gen [some 0, some 1] rfl ⟨boxK rfl rfl, ⟨_, rfl, rfl, rfl, by show Int.toNat n = n; omega, rfl, fun k j hk hj => ?_⟩, trivial⟩ ⟨⟨_, rfl, rfl, rfl⟩, ⟨_, rfl, rfl, rfl⟩, ⟨_, rfl, by show (Int.toNat n : Int) = n; omega⟩, ⟨_, rfl, rfl⟩, trivial⟩
    obtain rfl := Nat.lt_one_iff.1 hj
    show regC 0 _ _ (F 0 k) _
    rw [hg.new 0 k (Nat.zero_le k)]
    exact ⟨rfl, rfl⟩
  have n1 := n1 i
  obtain ⟨e1, e2⟩ := hnm i hi
  have e3 := fun (a : i < n) (j : Nat) (b : j < m) => (mat_idx a b).1
  refine swp_seq0 E1_ok mixed (by kernel_rfl) ?_
  conv => whnf
  refine swp_seq0 E1_ok mixed (by kernel_rfl) ?_
  conv => whnf
  refine bcase (fun (h : decide ((i : Int) < n) = true) => ?_) fun (h : decide ((i : Int) < n) = false) => ?_
  · have h := of_decide_eq_true h
    conv => whnf
    refine swp_seqS (swp_block ?_)
    refine swp_seq0 E1_ok mixed (by kernel_rfl) ?_
    conv => whnf
    refine swp_seq E1_ok mixed (by kernel_rfl) ?_
    conv => whnf
    refine ⟨by omega, Int.le_refl _, by omega, by show (64 : Int) * (m : Int) ≤ 281474976710656; omega, ?_⟩
    conv => whnf
    refine ⟨by omega, by show (i : Int) < (n : Int); omega, ?_⟩
    conv => whnf
    refine ⟨gst [(1, .c (.p 0 0 3 0 0)), (3, .c (.gs 1 0)), (4, .c (.int .i64 i)), (10, .c (.int .i64 n)), (11, .c (.int .i64 i))] [⟨25, 3, 1, boxF (matL n m G)⟩, gGrid n (C i), gqr m (rmid (G i) 0)], Weak.gen [some 0, some 1, some 2] rfl ⟨boxK rfl rfl, ⟨_, rfl, rfl, rfl, rfl, rfl, fun k j hk hj => ?_⟩, ⟨_, rfl, rfl, rfl, by show Int.toNat m = m; omega, rfl, fun k j hk hj => ?_⟩, trivial⟩ ⟨⟨_, rfl, rfl, rfl⟩, ⟨_, rfl, rfl, rfl⟩, ⟨_, rfl, rfl⟩, ⟨_, rfl, rfl⟩, ⟨_, rfl, rfl⟩, trivial⟩, ?_⟩
    · obtain rfl := Nat.lt_one_iff.1 hj
      show regC 0 _ _ (C i k) fun z => updF (fun k _ => F i k) i 0 [.gs 2 0] k 0 = z
      rcases Nat.lt_trichotomy k i with c | c | c
      · rw [hg.old' i k c, show updF (fun k _ => F i k) i 0 [.gs 2 0] k 0 = nql m (G k) from (if_neg (fun h => by have := h.1; omega)).trans (hg.old i k c)]
        exact regE rfl rfl
      · subst c
        rw [hg.at', show updF (fun j _ => F k j) k 0 [.gs 2 0] k 0 = .gs 2 0 from if_pos ⟨rfl, Nat.le_refl 0, by decide⟩]
        exact ⟨_, rfl, rfl, rfl⟩
      · rw [hg.new' i k c, show updF (fun k _ => F i k) i 0 [.gs 2 0] k 0 = .nil from (if_neg (fun h => by have := h.1; omega)).trans (hg.new i k (by omega))]
        exact ⟨rfl, rfl⟩
    · show regC 0 _ _ (qlF (rmid (G i) 0) k j) _
      rw [rmid_zero]
      match j, hj with
      | 0, _ => exact ⟨_, rfl, rfl⟩
      | 1, _ => exact .inr (.inl ⟨rfl, rfl⟩)
      | 2, _ => exact ⟨_, rfl, rfl⟩
      | 3, _ => exact .inr (.inl ⟨rfl, rfl⟩)
    have hCi : C i (i : Int).toNat = .gs 2 0 := hg.at' i
    refine swp_seq E1_ok mixed (by kernel_rfl) ?_
    conv => whnf
    refine ⟨by omega, by show (i : Int) < (n : Int); omega, ?_⟩
    conv => whnf
    conv =>
      pattern lenA _ _
      change lenA _ (V.c (C i (i : Int).toNat))
      rw [hCi]
    conv => whnf
    refine ⟨gst [(1, .c (.p 0 0 3 0 0)), (3, .c (.gs 1 0)), (4, .c (.int .i64 i)), (10, .c (.int .i64 n)), (11, .c (.int .i64 i)), (24, .c (.int .i64 m)), (25, .c (.int .i64 0))] [⟨25, 3, 1, boxF (matL n m G)⟩, gGrid n (C i), gqr m (rmid (G i) 0)], Weak.gen [some 0, some 1, some 2] rfl ⟨boxK rfl rfl, ⟨_, rfl, rfl, rfl, rfl, rfl, fun k j hk hj => cell_keep hg k ⟨_, rfl, rfl, rfl⟩ rfl⟩, ⟨_, rfl, rfl, rfl, rfl, rfl, fun k j hk hj => regE rfl (ql_clos (c := rmid (G i) 0) k j)⟩, trivial⟩ ⟨⟨_, rfl, rfl, rfl⟩, ⟨_, rfl, rfl, rfl⟩, ⟨_, rfl, rfl⟩, ⟨_, rfl, rfl⟩, ⟨_, rfl, rfl⟩, ⟨_, rfl, rfl⟩, ⟨_, rfl, rfl⟩, trivial⟩, ?_⟩
    refine swp_of E1_ok mixed (by kernel_rfl) ?_
    conv => whnf
    refine loop_ints (fun j : Nat => gst [(1, .c (.p 0 0 3 0 0)), (3, .c (.gs 1 0)), (4, .c (.int .i64 i)), (10, .c (.int .i64 n)), (11, .c (.int .i64 i)), (24, .c (.int .i64 m)), (25, .c (.int .i64 j))] [⟨25, 3, 1, boxF (matL n m G)⟩, gGrid n (C i), gqr m (rmid (G i) j)]) (fun j => m - j) (fun j => j ≤ m) 0 rfl (Weak.gen [some 0, some 1, some 2] rfl ⟨boxK rfl rfl, ⟨_, rfl, rfl, rfl, rfl, rfl, fun k j hk hj => cell_keep hg k ⟨_, rfl, rfl, rfl⟩ rfl⟩, ⟨_, rfl, rfl, rfl, rfl, rfl, fun k j hk hj => regE rfl (ql_clos (c := rmid (G i) 0) k j)⟩, trivial⟩ ⟨⟨_, rfl, rfl, rfl⟩, ⟨_, rfl, rfl, rfl⟩, ⟨_, rfl, rfl⟩, ⟨_, rfl, rfl⟩, ⟨_, rfl, rfl⟩, ⟨_, rfl, rfl⟩, ⟨_, rfl, rfl⟩, trivial⟩) (Nat.zero_le _) fun j hj => ?_
    have n1 := fun a => n1 j (by omega) a
    have e3 := fun a => e3 (by omega) j a
    conv => whnf
    refine bcase (fun (h1 : decide ((j : Int) < m) = true) => ?_) fun (h1 : decide ((j : Int) < m) = false) => ?_
    · have h1 := of_decide_eq_true h1
      have n1 := n1 (by omega)
      have e3 := e3 (by omega)
      conv => whnf
      refine ⟨by omega, by show (i : Int) < (n : Int); omega, ?_⟩
      conv => whnf
      refine ⟨i64 (by rw [e1]; omega) (by rw [e1]; omega), ?_⟩
      conv => whnf
      refine ⟨i64 (by rw [e1]; omega) (by rw [e1]; omega), ?_⟩
      conv => whnf
      refine ⟨by rw [e1]; omega, by show (i : Int) * (m : Int) + (j : Int) < ((n * m : Nat) : Int); rw [e1]; omega, ?_⟩
      conv => whnf
      refine ⟨_, n1, ?_⟩
      conv => whnf
      refine ⟨by omega, ?_⟩
      conv =>
        pattern St.ev _ (Operand.tmp 31)
        change V.c (C i (i : Int).toNat)
        rw [hCi]
      conv => whnf
      refine ⟨by show (j : Int) < (m : Int); omega, ?_⟩
      conv => whnf
      refine ⟨i64 (by omega) (by omega), ?_⟩
      conv => whnf
      refine ⟨j + 1, by omega, Weak.gen [some 0, some 1, some 2] rfl ⟨boxK rfl rfl, ⟨_, rfl, rfl, rfl, rfl, rfl, fun k j hk hj => cell_keep hg k ⟨_, rfl, rfl, rfl⟩ rfl⟩, ⟨_, rfl, rfl, rfl, rfl, rfl, fun a b ha hb => regE ?_ (ql_clos (c := rmid (G i) (j + 1)) a b)⟩, trivial⟩ ⟨⟨_, rfl, rfl, rfl⟩, ⟨_, rfl, rfl, rfl⟩, ⟨_, rfl, rfl⟩, ⟨_, rfl, rfl⟩, ⟨_, rfl, rfl⟩, ⟨_, rfl, rfl⟩, ⟨_, rfl, rfl⟩, trivial⟩, by omega⟩
      exact updG (sz := 4) (g := fun k => rr (rmid (G i) j k)) (g' := fun k => rr (rmid (G i) (j + 1) k)) (l := nq (G i j)) rfl hb (rmid_next (G i) j a)
    · have h1 := of_decide_eq_false h1
      have ej : j = m := by omega
      conv => whnf
      refine swp_of E1_ok mixed (by kernel_rfl) ?_
      conv => whnf
      refine ⟨i64 (by omega) (by omega), ?_⟩
      conv => whnf
      refine ⟨i + 1, by omega, Weak.gen [some 0, some 1] rfl ⟨boxK rfl rfl, ⟨_, rfl, rfl, rfl, rfl, rfl, fun k l hk hl => ?_⟩, trivial⟩ ⟨⟨_, rfl, rfl, rfl⟩, ⟨_, rfl, rfl, rfl⟩, ⟨_, rfl, rfl⟩, ⟨_, rfl, rfl⟩, trivial⟩, by omega⟩
      obtain rfl := Nat.lt_one_iff.1 hl
      show regC 0 _ _ (F (i + 1) k) fun z => C i k = z
      rcases Nat.lt_trichotomy k i with c | c | c
      · rw [hg.old (i + 1) k (by omega), hg.old' i k c]
        exact regE rfl rfl
      · subst c
        rw [hg.old (k + 1) k (by omega), hg.at']
        exact .inr (.inr ⟨2, _, rfl, rfl, rfl, rfl, Nat.zero_le _, rfl, rfl, fun a b ha hb => ⟨qlF_eq (c := rmid (G k) j) (e := fun a => ofR (G k a)) (i := a) (k := a) (rmid_all (by omega)), ql_clos (c := fun a => ofR (G k a)) a b⟩⟩)
      · rw [hg.new (i + 1) k (by omega), hg.new' i k c]
        exact ⟨rfl, rfl⟩
  · have h := of_decide_eq_false h
    have e : i = n := by omega
    conv => whnf
    have g : Sub (.c (.row 1 n fun k _ => F i k)) (.c (rowsC n m G)) := subRowG rfl fun k j hk hj => hg.old i k (by omega)
    refine swp_of E1_ok mixed (by kernel_rfl) ?_
    conv => whnf
    refine ⟨fun a b ha hb => by show (F i a).clos = true; rw [hg.old i a (Nat.lt_of_lt_of_le ha (show n ≤ i by omega))]; rfl, ?_⟩
    conv => whnf
    exact ⟨rfl, g⟩
end Rf
end Go.Proofs.YtigciplaoikcfaaGreat
/- Matrices in the program: from rows; the matrix of a multiplication. -/
namespace Go.Proofs.YtigciplaoikcfaaGreat
open Go.RowKit
namespace Rf
set_option maxHeartbeats 4000000 in
theorem fits_yes {n : Nat} (hn : n ≤ 1024) : FnOK Tryz.prog true 76 [.c (.int .i64 n)] (.c (.bool true)) := by
  refine fn_ok (E := E1) E1_ok Tryz.func76 rfl mixed (by kernel_rfl) (by kernel_rfl) ?_
  conv => whnf
  exact ⟨rfl, sub_bool (decide_eq_true (by omega))⟩
end Rf
end Go.Proofs.YtigciplaoikcfaaGreat
/- Matrices in the program, whatever fractions their elements are: rows loaded. -/
namespace Go.Proofs.YtigciplaoikcfaaGreat
open Go.RowKit
namespace Rf
set_option maxHeartbeats 16000000 in
theorem loadR_ok {n m : Nat} {q : Nat → RawR} {G : Nat → Nat → Rat} (hn : n ≤ 64) (hm : m ≤ 64) (hq : ∀ k, k < n * m → (q k).Fit KD) (hG : ∀ i j, i < n → j < m → (q (i * m + j)).val = G i j) : FnOK Tryz.prog true 80 [.g (rmat n m q)] (.c (rowsC n m G)) := by
  obtain ⟨F, C, hg⟩ := grd m G
  have hnm : ∀ i, i ≤ n → (i : Int) * (m : Int) = ((i * m : Nat) : Int) ∧ i * m ≤ 4096 := fun i hi => ⟨by rw [Int.natCast_mul], Nat.le_trans (Nat.mul_le_mul (show i ≤ 64 by omega) hm) (by decide)⟩
  have n1 : ∀ i j, i < n → j < m → FnOK Tryz.prog true 74 [.g (rr (q ((i : Int) * (m : Int) + (j : Int)).toNat))] (.g (nq (G i j))) := fun i j hi hj => by
    have e1 := (hnm i (by omega)).1
    rw [show ((i : Int) * (m : Int) + (j : Int)).toNat = i * m + j by rw [e1]; omega, ← hG i j hi hj]
    exact qnormal_ok (hq _ (mat_idx hi hj).1) (by decide)
  clear hq hG
  refine fn_okS (E := E1) E1_ok Tryz.func80 rfl (by kernel_rfl) ?_
  refine swp_seq0 E1_ok mixed (by kernel_rfl) ?_
  conv => whnf
  refine swp_seq0 E1_ok mixed (by kernel_rfl) ?_
  conv => whnf
  refine ⟨by omega, Int.le_refl _, by omega, by show (24 : Int) * (n : Int) ≤ 281474976710656; omega, ?_⟩
  conv => whnf
  refine swp_seqS ?_
  refine swp_seq0 E1_ok mixed (by kernel_rfl) ?_
  conv => whnf
  refine swp_block ?_
  refine swp_loop (fun i : Nat => gst [(1, .c (.p 0 0 3 0 0)), (3, .c (.gs 1 0)), (10, .c (.int .i64 n)), (11, .c (.int .i64 i))] [⟨25, 3, 1, boxF (rmat n m q)⟩, gGrid n (F i)]) (fun i => n - i) (fun i => i ≤ n) 0 ?_ (Nat.zero_le _) fun i hi => ?_
  · refine Weak.gen [some 0, some 1] rfl ⟨boxK rfl rfl, ⟨_, rfl, rfl, rfl, by show Int.toNat n = n; omega, rfl, fun k j hk hj => ?_⟩, trivial⟩ ⟨⟨_, rfl, rfl, rfl⟩, ⟨_, rfl, rfl, rfl⟩, ⟨_, rfl, by show (Int.toNat n : Int) = n; omega⟩, ⟨_, rfl, rfl⟩, trivial⟩
    obtain rfl := Nat.lt_one_iff.1 hj
    show regC 0 _ _ (F 0 k) _
    rw [hg.new 0 k (Nat.zero_le k)]
    exact ⟨rfl, rfl⟩
  have n1 := n1 i
  obtain ⟨e1, e2⟩ := hnm i hi
  have e3 := fun (a : i < n) (j : Nat) (b : j < m) => (mat_idx a b).1
  refine swp_seq0 E1_ok mixed (by kernel_rfl) ?_
  conv => whnf
  refine swp_seq0 E1_ok mixed (by kernel_rfl) ?_
  conv => whnf
  refine bcase (fun (h : decide ((i : Int) < n) = true) => ?_) fun (h : decide ((i : Int) < n) = false) => ?_
  · have h := of_decide_eq_true h
    conv => whnf
    refine swp_seqS (swp_block ?_)
    refine swp_seq0 E1_ok mixed (by kernel_rfl) ?_
    conv => whnf
    refine swp_seq E1_ok mixed (by kernel_rfl) ?_
    conv => whnf
    refine ⟨by omega, Int.le_refl _, by omega, by show (64 : Int) * (m : Int) ≤ 281474976710656; omega, ?_⟩
    conv => whnf
    refine ⟨by omega, by show (i : Int) < (n : Int); omega, ?_⟩
    conv => whnf
    refine ⟨gst [(1, .c (.p 0 0 3 0 0)), (3, .c (.gs 1 0)), (4, .c (.int .i64 i)), (10, .c (.int .i64 n)), (11, .c (.int .i64 i))] [⟨25, 3, 1, boxF (rmat n m q)⟩, gGrid n (C i), gqr m (rmid (G i) 0)], Weak.gen [some 0, some 1, some 2] rfl ⟨boxK rfl rfl, ⟨_, rfl, rfl, rfl, rfl, rfl, fun k j hk hj => ?_⟩, ⟨_, rfl, rfl, rfl, by show Int.toNat m = m; omega, rfl, fun k j hk hj => ?_⟩, trivial⟩ ⟨⟨_, rfl, rfl, rfl⟩, ⟨_, rfl, rfl, rfl⟩, ⟨_, rfl, rfl⟩, ⟨_, rfl, rfl⟩, ⟨_, rfl, rfl⟩, trivial⟩, ?_⟩
    · obtain rfl := Nat.lt_one_iff.1 hj
      show regC 0 _ _ (C i k) fun z => updF (fun k _ => F i k) i 0 [.gs 2 0] k 0 = z
      rcases Nat.lt_trichotomy k i with c | c | c
      · rw [hg.old' i k c, show updF (fun k _ => F i k) i 0 [.gs 2 0] k 0 = nql m (G k) from (if_neg (fun h => by have := h.1; omega)).trans (hg.old i k c)]
        exact regE rfl rfl
      · subst c
        rw [hg.at', show updF (fun j _ => F k j) k 0 [.gs 2 0] k 0 = .gs 2 0 from if_pos ⟨rfl, Nat.le_refl 0, by decide⟩]
        exact ⟨_, rfl, rfl, rfl⟩
      · rw [hg.new' i k c, show updF (fun k _ => F i k) i 0 [.gs 2 0] k 0 = .nil from (if_neg (fun h => by have := h.1; omega)).trans (hg.new i k (by omega))]
        exact ⟨rfl, rfl⟩
    · show regC 0 _ _ (qlF (rmid (G i) 0) k j) _
      rw [rmid_zero]
      match j, hj with
      | 0, _ => exact ⟨_, rfl, rfl⟩
      | 1, _ => exact .inr (.inl ⟨rfl, rfl⟩)
      | 2, _ => exact ⟨_, rfl, rfl⟩
      | 3, _ => exact .inr (.inl ⟨rfl, rfl⟩)
    have hCi : C i (i : Int).toNat = .gs 2 0 := hg.at' i
    refine swp_seq E1_ok mixed (by kernel_rfl) ?_
    conv => whnf
    refine ⟨by omega, by show (i : Int) < (n : Int); omega, ?_⟩
    conv => whnf
    conv =>
      pattern lenA _ _
      change lenA _ (V.c (C i (i : Int).toNat))
      rw [hCi]
    conv => whnf
    refine ⟨gst [(1, .c (.p 0 0 3 0 0)), (3, .c (.gs 1 0)), (4, .c (.int .i64 i)), (10, .c (.int .i64 n)), (11, .c (.int .i64 i)), (24, .c (.int .i64 m)), (25, .c (.int .i64 0))] [⟨25, 3, 1, boxF (rmat n m q)⟩, gGrid n (C i), gqr m (rmid (G i) 0)], Weak.gen [some 0, some 1, some 2] rfl ⟨boxK rfl rfl, ⟨_, rfl, rfl, rfl, rfl, rfl, fun k j hk hj => cell_keep hg k ⟨_, rfl, rfl, rfl⟩ rfl⟩, ⟨_, rfl, rfl, rfl, rfl, rfl, fun k j hk hj => regE rfl (ql_clos (c := rmid (G i) 0) k j)⟩, trivial⟩ ⟨⟨_, rfl, rfl, rfl⟩, ⟨_, rfl, rfl, rfl⟩, ⟨_, rfl, rfl⟩, ⟨_, rfl, rfl⟩, ⟨_, rfl, rfl⟩, ⟨_, rfl, rfl⟩, ⟨_, rfl, rfl⟩, trivial⟩, ?_⟩
    refine swp_of E1_ok mixed (by kernel_rfl) ?_
    conv => whnf
    refine loop_ints (fun j : Nat => gst [(1, .c (.p 0 0 3 0 0)), (3, .c (.gs 1 0)), (4, .c (.int .i64 i)), (10, .c (.int .i64 n)), (11, .c (.int .i64 i)), (24, .c (.int .i64 m)), (25, .c (.int .i64 j))] [⟨25, 3, 1, boxF (rmat n m q)⟩, gGrid n (C i), gqr m (rmid (G i) j)]) (fun j => m - j) (fun j => j ≤ m) 0 rfl (Weak.gen [some 0, some 1, some 2] rfl ⟨boxK rfl rfl, ⟨_, rfl, rfl, rfl, rfl, rfl, fun k j hk hj => cell_keep hg k ⟨_, rfl, rfl, rfl⟩ rfl⟩, ⟨_, rfl, rfl, rfl, rfl, rfl, fun k j hk hj => regE rfl (ql_clos (c := rmid (G i) 0) k j)⟩, trivial⟩ ⟨⟨_, rfl, rfl, rfl⟩, ⟨_, rfl, rfl, rfl⟩, ⟨_, rfl, rfl⟩, ⟨_, rfl, rfl⟩, ⟨_, rfl, rfl⟩, ⟨_, rfl, rfl⟩, ⟨_, rfl, rfl⟩, trivial⟩) (Nat.zero_le _) fun j hj => ?_
    have n1 := fun a => n1 j (by omega) a
    have e3 := fun a => e3 (by omega) j a
    conv => whnf
    refine bcase (fun (h1 : decide ((j : Int) < m) = true) => ?_) fun (h1 : decide ((j : Int) < m) = false) => ?_
    · have h1 := of_decide_eq_true h1
      have n1 := n1 (by omega)
      have e3 := e3 (by omega)
      conv => whnf
      refine ⟨by omega, by show (i : Int) < (n : Int); omega, ?_⟩
      conv => whnf
      refine ⟨i64 (by rw [e1]; omega) (by rw [e1]; omega), ?_⟩
      conv => whnf
      refine ⟨i64 (by rw [e1]; omega) (by rw [e1]; omega), ?_⟩
      conv => whnf
      refine ⟨by rw [e1]; omega, by show (i : Int) * (m : Int) + (j : Int) < ((n * m : Nat) : Int); rw [e1]; omega, ?_⟩
      conv => whnf
      refine ⟨_, n1, ?_⟩
      conv => whnf
      refine ⟨by omega, ?_⟩
      conv =>
        pattern St.ev _ (Operand.tmp 31)
        change V.c (C i (i : Int).toNat)
        rw [hCi]
      conv => whnf
      refine ⟨by show (j : Int) < (m : Int); omega, ?_⟩
      conv => whnf
      refine ⟨i64 (by omega) (by omega), ?_⟩
      conv => whnf
      refine ⟨j + 1, by omega, Weak.gen [some 0, some 1, some 2] rfl ⟨boxK rfl rfl, ⟨_, rfl, rfl, rfl, rfl, rfl, fun k j hk hj => cell_keep hg k ⟨_, rfl, rfl, rfl⟩ rfl⟩, ⟨_, rfl, rfl, rfl, rfl, rfl, fun a b ha hb => regE ?_ (ql_clos (c := rmid (G i) (j + 1)) a b)⟩, trivial⟩ ⟨⟨_, rfl, rfl, rfl⟩, ⟨_, rfl, rfl, rfl⟩, ⟨_, rfl, rfl⟩, ⟨_, rfl, rfl⟩, ⟨_, rfl, rfl⟩, ⟨_, rfl, rfl⟩, ⟨_, rfl, rfl⟩, trivial⟩, by omega⟩
      exact updG (sz := 4) (g := fun k => rr (rmid (G i) j k)) (g' := fun k => rr (rmid (G i) (j + 1) k)) (l := nq (G i j)) rfl hb (rmid_next (G i) j a)
    · have h1 := of_decide_eq_false h1
      have ej : j = m := by omega
      conv => whnf
      refine swp_of E1_ok mixed (by kernel_rfl) ?_
      conv => whnf
      refine ⟨i64 (by omega) (by omega), ?_⟩
      conv => whnf
      refine ⟨i + 1, by omega, Weak.gen [some 0, some 1] rfl ⟨boxK rfl rfl, ⟨_, rfl, rfl, rfl, rfl, rfl, fun k l hk hl => ?_⟩, trivial⟩ ⟨⟨_, rfl, rfl, rfl⟩, ⟨_, rfl, rfl, rfl⟩, ⟨_, rfl, rfl⟩, ⟨_, rfl, rfl⟩, trivial⟩, by omega⟩
      obtain rfl := Nat.lt_one_iff.1 hl
      show regC 0 _ _ (F (i + 1) k) fun z => C i k = z
      rcases Nat.lt_trichotomy k i with c | c | c
      · rw [hg.old (i + 1) k (by omega), hg.old' i k c]
        exact regE rfl rfl
      · subst c
        rw [hg.old (k + 1) k (by omega), hg.at']
        exact .inr (.inr ⟨2, _, rfl, rfl, rfl, rfl, Nat.zero_le _, rfl, rfl, fun a b ha hb => ⟨qlF_eq (c := rmid (G k) j) (e := fun a => ofR (G k a)) (i := a) (k := a) (rmid_all (by omega)), ql_clos (c := fun a => ofR (G k a)) a b⟩⟩)
      · rw [hg.new (i + 1) k (by omega), hg.new' i k c]
        exact ⟨rfl, rfl⟩
  · have h := of_decide_eq_false h
    have e : i = n := by omega
    conv => whnf
    have g : Sub (.c (.row 1 n fun k _ => F i k)) (.c (rowsC n m G)) := subRowG rfl fun k j hk hj => hg.old i k (by omega)
    refine swp_of E1_ok mixed (by kernel_rfl) ?_
    conv => whnf
    refine ⟨fun a b ha hb => by show (F i a).clos = true; rw [hg.old i a (Nat.lt_of_lt_of_le ha (show n ≤ i by omega))]; rfl, ?_⟩
    conv => whnf
    exact ⟨rfl, g⟩
set_option maxHeartbeats 16000000 in
theorem loadR_s {n m : Nat} {q : Nat → RawR} {G : Nat → Nat → Rat} (hn : n ≤ 64) (hm : m ≤ 64) (hq : ∀ k, k < n * m → (q k).Fit KD) (hG : ∀ i j, i < n → j < m → (q (i * m + j)).val = G i j) : FnS Tryz.prog true 80 [] [.g (rmat n m q)] (.c (.gs 0 0)) [gb (gGrid n fun i => nql m (G i))] := by
  obtain ⟨F, C, hg⟩ := grd m G
  have hnm : ∀ i, i ≤ n → (i : Int) * (m : Int) = ((i * m : Nat) : Int) ∧ i * m ≤ 4096 := fun i hi => ⟨by rw [Int.natCast_mul], Nat.le_trans (Nat.mul_le_mul (show i ≤ 64 by omega) hm) (by decide)⟩
  have n1 : ∀ i j, i < n → j < m → FnOK Tryz.prog true 74 [.g (rr (q ((i : Int) * (m : Int) + (j : Int)).toNat))] (.g (nq (G i j))) := fun i j hi hj => by
    have e1 := (hnm i (by omega)).1
    rw [show ((i : Int) * (m : Int) + (j : Int)).toNat = i * m + j by rw [e1]; omega, ← hG i j hi hj]
    exact qnormal_ok (hq _ (mat_idx hi hj).1) (by decide)
  clear hq hG
  refine fns_okS (E := E1) E1_ok Tryz.func80 rfl (by kernel_rfl) rfl ?_
  refine swp_seq0 E1_ok mixed (by kernel_rfl) ?_
  conv => whnf
  refine swp_seq0 E1_ok mixed (by kernel_rfl) ?_
  conv => whnf
  refine ⟨by omega, Int.le_refl _, by omega, by show (24 : Int) * (n : Int) ≤ 281474976710656; omega, ?_⟩
  conv => whnf
  refine swp_seqS ?_
  refine swp_seq0 E1_ok mixed (by kernel_rfl) ?_
  conv => whnf
  refine swp_block ?_
  refine swp_loop (fun i : Nat => gst [(1, .c (.p 0 0 3 0 0)), (3, .c (.gs 1 0)), (10, .c (.int .i64 n)), (11, .c (.int .i64 i))] [⟨25, 3, 1, boxF (rmat n m q)⟩, gGrid n (F i)]) (fun i => n - i) (fun i => i ≤ n) 0 ?_ (Nat.zero_le _) fun i hi => ?_
  · refine Weak.gen [some 0, some 1] rfl ⟨boxK rfl rfl, ⟨_, rfl, rfl, rfl, by show Int.toNat n = n; omega, rfl, fun k j hk hj => ?_⟩, trivial⟩ ⟨⟨_, rfl, rfl, rfl⟩, ⟨_, rfl, rfl, rfl⟩, ⟨_, rfl, by show (Int.toNat n : Int) = n; omega⟩, ⟨_, rfl, rfl⟩, trivial⟩
    obtain rfl := Nat.lt_one_iff.1 hj
    show regC 0 _ _ (F 0 k) _
    rw [hg.new 0 k (Nat.zero_le k)]
    exact ⟨rfl, rfl⟩
  have n1 := n1 i
  obtain ⟨e1, e2⟩ := hnm i hi
  have e3 := fun (a : i < n) (j : Nat) (b : j < m) => (mat_idx a b).1
  refine swp_seq0 E1_ok mixed (by kernel_rfl) ?_
  conv => whnf
  refine swp_seq0 E1_ok mixed (by kernel_rfl) ?_
  conv => whnf
  refine bcase (fun (h : decide ((i : Int) < n) = true) => ?_) fun (h : decide ((i : Int) < n) = false) => ?_
  · have h := of_decide_eq_true h
    conv => whnf
    refine swp_seqS (swp_block ?_)
    refine swp_seq0 E1_ok mixed (by kernel_rfl) ?_
    conv => whnf
    refine swp_seq E1_ok mixed (by kernel_rfl) ?_
    conv => whnf
    refine ⟨by omega, Int.le_refl _, by omega, by show (64 : Int) * (m : Int) ≤ 281474976710656; omega, ?_⟩
    conv => whnf
    refine ⟨by omega, by show (i : Int) < (n : Int); omega, ?_⟩
    conv => whnf
    refine ⟨gst [(1, .c (.p 0 0 3 0 0)), (3, .c (.gs 1 0)), (4, .c (.int .i64 i)), (10, .c (.int .i64 n)), (11, .c (.int .i64 i))] [⟨25, 3, 1, boxF (rmat n m q)⟩, gGrid n (C i), gqr m (rmid (G i) 0)], Weak.gen [some 0, some 1, some 2] rfl ⟨boxK rfl rfl, ⟨_, rfl, rfl, rfl, rfl, rfl, fun k j hk hj => ?_⟩, ⟨_, rfl, rfl, rfl, by show Int.toNat m = m; omega, rfl, fun k j hk hj => ?_⟩, trivial⟩ ⟨⟨_, rfl, rfl, rfl⟩, ⟨_, rfl, rfl, rfl⟩, ⟨_, rfl, rfl⟩, ⟨_, rfl, rfl⟩, ⟨_, rfl, rfl⟩, trivial⟩, ?_⟩
    · obtain rfl := Nat.lt_one_iff.1 hj
      show regC 0 _ _ (C i k) fun z => updF (fun k _ => F i k) i 0 [.gs 2 0] k 0 = z
      rcases Nat.lt_trichotomy k i with c | c | c
      · rw [hg.old' i k c, show updF (fun k _ => F i k) i 0 [.gs 2 0] k 0 = nql m (G k) from (if_neg (fun h => by have := h.1; omega)).trans (hg.old i k c)]
        exact regE rfl rfl
      · subst c
        rw [hg.at', show updF (fun j _ => F k j) k 0 [.gs 2 0] k 0 = .gs 2 0 from if_pos ⟨rfl, Nat.le_refl 0, by decide⟩]
        exact ⟨_, rfl, rfl, rfl⟩
      · rw [hg.new' i k c, show updF (fun k _ => F i k) i 0 [.gs 2 0] k 0 = .nil from (if_neg (fun h => by have := h.1; omega)).trans (hg.new i k (by omega))]
        exact ⟨rfl, rfl⟩
    · show regC 0 _ _ (qlF (rmid (G i) 0) k j) _
      rw [rmid_zero]
      match j, hj with
      | 0, _ => exact ⟨_, rfl, rfl⟩
      | 1, _ => exact .inr (.inl ⟨rfl, rfl⟩)
      | 2, _ => exact ⟨_, rfl, rfl⟩
      | 3, _ => exact .inr (.inl ⟨rfl, rfl⟩)
    have hCi : C i (i : Int).toNat = .gs 2 0 := hg.at' i
    refine swp_seq E1_ok mixed (by kernel_rfl) ?_
    conv => whnf
    refine ⟨by omega, by show (i : Int) < (n : Int); omega, ?_⟩
    conv => whnf
    conv =>
      pattern lenA _ _
      change lenA _ (V.c (C i (i : Int).toNat))
      rw [hCi]
    conv => whnf
    refine ⟨gst [(1, .c (.p 0 0 3 0 0)), (3, .c (.gs 1 0)), (4, .c (.int .i64 i)), (10, .c (.int .i64 n)), (11, .c (.int .i64 i)), (24, .c (.int .i64 m)), (25, .c (.int .i64 0))] [⟨25, 3, 1, boxF (rmat n m q)⟩, gGrid n (C i), gqr m (rmid (G i) 0)], Weak.gen [some 0, some 1, some 2] rfl ⟨boxK rfl rfl, ⟨_, rfl, rfl, rfl, rfl, rfl, fun k j hk hj => cell_keep hg k ⟨_, rfl, rfl, rfl⟩ rfl⟩, ⟨_, rfl, rfl, rfl, rfl, rfl, fun k j hk hj => regE rfl (ql_clos (c := rmid (G i) 0) k j)⟩, trivial⟩ ⟨⟨_, rfl, rfl, rfl⟩, ⟨_, rfl, rfl, rfl⟩, ⟨_, rfl, rfl⟩, ⟨_, rfl, rfl⟩, ⟨_, rfl, rfl⟩, ⟨_, rfl, rfl⟩, ⟨_, rfl, rfl⟩, trivial⟩, ?_⟩
    refine swp_of E1_ok mixed (by kernel_rfl) ?_
    conv => whnf
    refine loop_ints (fun j : Nat => gst [(1, .c (.p 0 0 3 0 0)), (3, .c (.gs 1 0)), (4, .c (.int .i64 i)), (10, .c (.int .i64 n)), (11, .c (.int .i64 i)), (24, .c (.int .i64 m)), (25, .c (.int .i64 j))] [⟨25, 3, 1, boxF (rmat n m q)⟩, gGrid n (C i), gqr m (rmid (G i) j)]) (fun j => m - j) (fun j => j ≤ m) 0 rfl (Weak.gen [some 0, some 1, some 2] rfl ⟨boxK rfl rfl, ⟨_, rfl, rfl, rfl, rfl, rfl, fun k j hk hj => cell_keep hg k ⟨_, rfl, rfl, rfl⟩ rfl⟩, ⟨_, rfl, rfl, rfl, rfl, rfl, fun k j hk hj => regE rfl (ql_clos (c := rmid (G i) 0) k j)⟩, trivial⟩ ⟨⟨_, rfl, rfl, rfl⟩, ⟨_, rfl, rfl, rfl⟩, ⟨_, rfl, rfl⟩, ⟨_, rfl, rfl⟩, ⟨_, rfl, rfl⟩, ⟨_, rfl, rfl⟩, ⟨_, rfl, rfl⟩, trivial⟩) (Nat.zero_le _) fun j hj => ?_
    have n1 := fun a => n1 j (by omega) a
    have e3 := fun a => e3 (by omega) j a
    conv => whnf
    refine bcase (fun (h1 : decide ((j : Int) < m) = true) => ?_) fun (h1 : decide ((j : Int) < m) = false) => ?_
    · have h1 := of_decide_eq_true h1
      have n1 := n1 (by omega)
      have e3 := e3 (by omega)
      conv => whnf
      refine ⟨by omega, by show (i : Int) < (n : Int); omega, ?_⟩
      conv => whnf
      refine ⟨i64 (by rw [e1]; omega) (by rw [e1]; omega), ?_⟩
      conv => whnf
      refine ⟨i64 (by rw [e1]; omega) (by rw [e1]; omega), ?_⟩
      conv => whnf
      refine ⟨by rw [e1]; omega, by show (i : Int) * (m : Int) + (j : Int) < ((n * m : Nat) : Int); rw [e1]; omega, ?_⟩
      conv => whnf
      refine ⟨_, n1, ?_⟩
      conv => whnf
      refine ⟨by omega, ?_⟩
      conv =>
        pattern St.ev _ (Operand.tmp 31)
        change V.c (C i (i : Int).toNat)
        rw [hCi]
      conv => whnf
      refine ⟨by show (j : Int) < (m : Int); omega, ?_⟩
      conv => whnf
      refine ⟨i64 (by omega) (by omega), ?_⟩
      conv => whnf
      refine ⟨j + 1, by omega, Weak.gen [some 0, some 1, some 2] rfl ⟨boxK rfl rfl, ⟨_, rfl, rfl, rfl, rfl, rfl, fun k j hk hj => cell_keep hg k ⟨_, rfl, rfl, rfl⟩ rfl⟩, ⟨_, rfl, rfl, rfl, rfl, rfl, fun a b ha hb => regE ?_ (ql_clos (c := rmid (G i) (j + 1)) a b)⟩, trivial⟩ ⟨⟨_, rfl, rfl, rfl⟩, ⟨_, rfl, rfl, rfl⟩, ⟨_, rfl, rfl⟩, ⟨_, rfl, rfl⟩, ⟨_, rfl, rfl⟩, ⟨_, rfl, rfl⟩, ⟨_, rfl, rfl⟩, trivial⟩, by omega⟩
      exact updG (sz := 4) (g := fun k => rr (rmid (G i) j k)) (g' := fun k => rr (rmid (G i) (j + 1) k)) (l := nq (G i j)) rfl hb (rmid_next (G i) j a)
    · have h1 := of_decide_eq_false h1
      have ej : j = m := by omega
      conv => whnf
      refine swp_of E1_ok mixed (by kernel_rfl) ?_
      conv => whnf
      refine ⟨i64 (by omega) (by omega), ?_⟩
      conv => whnf
      refine ⟨i + 1, by omega, Weak.gen [some 0, some 1] rfl ⟨boxK rfl rfl, ⟨_, rfl, rfl, rfl, rfl, rfl, fun k l hk hl => ?_⟩, trivial⟩ ⟨⟨_, rfl, rfl, rfl⟩, ⟨_, rfl, rfl, rfl⟩, ⟨_, rfl, rfl⟩, ⟨_, rfl, rfl⟩, trivial⟩, by omega⟩
      obtain rfl := Nat.lt_one_iff.1 hl
      show regC 0 _ _ (F (i + 1) k) fun z => C i k = z
      rcases Nat.lt_trichotomy k i with c | c | c
      · rw [hg.old (i + 1) k (by omega), hg.old' i k c]
        exact regE rfl rfl
      · subst c
        rw [hg.old (k + 1) k (by omega), hg.at']
        exact .inr (.inr ⟨2, _, rfl, rfl, rfl, rfl, Nat.zero_le _, rfl, rfl, fun a b ha hb => ⟨qlF_eq (c := rmid (G k) j) (e := fun a => ofR (G k a)) (i := a) (k := a) (rmid_all (by omega)), ql_clos (c := fun a => ofR (G k a)) a b⟩⟩)
      · rw [hg.new (i + 1) k (by omega), hg.new' i k c]
        exact ⟨rfl, rfl⟩
  · have h := of_decide_eq_false h
    have e : i = n := by omega
    conv => whnf
    refine swp_of E1_ok mixed (by kernel_rfl) ?_
    conv => whnf
    refine (show Weak 0 ⟨_, _⟩ (gst [(0, .c (.gs 0 0))] [gGrid n fun i => nql m (G i)]) from Weak.gen [some 1] rfl ⟨⟨_, rfl, rfl, rfl, rfl, rfl, fun k j hk hj => ?_⟩, trivial⟩ ⟨⟨_, rfl, rfl, rfl⟩, trivial⟩)
    show regC 0 _ _ (nql m (G k)) fun z => F i k = z
    rw [hg.old i k (by have hk : k < n := hk; omega)]
    exact regE rfl rfl
end Rf
end Go.Proofs.YtigciplaoikcfaaGreat
/- Matrices in the program, whatever fractions their elements are: products. -/
namespace Go.Proofs.YtigciplaoikcfaaGreat
open Go.RowKit
namespace Rf
theorem valid_yes {n m : Nat} {q : Nat → RawR} (hn : n ≤ 1024) (hm : m ≤ 1024) : FnOK Tryz.prog true 73 [.g (rmat n m q)] (.c (.bool true)) := by
  have h := valid_ok (r := n) (c := m) (len := n * m) (f := qlF q)
  rwa [decide_eq_true (⟨⟨by omega, by omega⟩, ⟨by omega, by omega⟩, by rw [Int.natCast_mul]⟩ : ((0 : Int) ≤ n ∧ (n : Int) ≤ 1024) ∧ ((0 : Int) ≤ m ∧ (m : Int) ≤ 1024) ∧ ((n * m : Nat) : Int) = (n : Int) * m)] at h
theorem rowSum_su (X : Nat → Rat) (G : Nat → Nat → Rat) : ∀ i j, rowSum X G i j = sumR X G i j
  | 0, _ => rfl
  | i + 1, j => by
    show rowSum X G i j + X i * G i j = Q.su (fun a => X a * G a j) i + X i * G i j
    rw [rowSum_su X G i j]
/-- The rows of a product while they are made: those before the place i are there. -/
abbrev mid2L (m k i r : Nat) : Nat := if r < i then m else k
abbrev mid2F (P A : Nat → Nat → Rat) (i r : Nat) : Nat → Rat := if r < i then P r else A r
theorem if_next {α : Type} {i r : Nat} (e : r ≠ i) (x y : α) : (if r < i + 1 then x else y) = if r < i then x else y := by
  by_cases c : r < i
  · rw [if_pos c, if_pos (by omega)]
  · rw [if_neg c, if_neg (by omega)]
theorem mid2_at {q : Nat} {bl : List Blk} {ks : List (Option Nat)} {m k i : Nat} {P A : Nat → Nat → Rat} {F : Nat → Nat → Cell} (hF : ∀ r, F r 0 = nql (mid2L m k i r) (mid2F P A i r)) (r b : Nat) (hb : b < 1) : regC q bl ks (nql (mid2L m k (i + 1) r) (mid2F P A (i + 1) r)) fun z => updF F i 0 [nql m (P i)] r b = z := by
  obtain rfl := Nat.lt_one_iff.1 hb
  by_cases e : r = i
  · subst e
    rw [show updF F r 0 [nql m (P r)] r 0 = nql m (P r) from if_pos ⟨rfl, Nat.le_refl 0, by simp⟩, show mid2L m k (r + 1) r = m from if_pos (Nat.lt_succ_self r), show mid2F P A (r + 1) r = P r from if_pos (Nat.lt_succ_self r)]
    exact regE rfl rfl
  · rw [show updF F i 0 [nql m (P i)] r 0 = F r 0 from if_neg fun h => e h.1, hF]
    rw [show mid2L m k (i + 1) r = mid2L m k i r from if_next e _ _, show mid2F P A (i + 1) r = mid2F P A i r from if_next e _ _]
    exact regE rfl rfl
set_option maxHeartbeats 16000000 in
theorem mulR_ok {n k m : Nat} {q p : Nat → RawR} {A B : Nat → Nat → Rat} (hn : n ≤ 64) (hk : k ≤ 64) (hm : m ≤ 64) (hq : ∀ a, a < n * k → (q a).Fit KD) (hqv : ∀ i j, i < n → j < k → (q (i * k + j)).val = A i j) (hp : ∀ a, a < k * m → (p a).Fit KD) (hpv : ∀ i j, i < k → j < m → (p (i * m + j)).val = B i j) (hA : ∀ i j, i < n → j < k → qlen (A i j) ≤ KD) (hB : ∀ i j, i < k → j < m → qlen (B i j) ≤ KD) (hS : ∀ r i j, r < n → i ≤ k → j < m → qlen (sumR (A r) B i j) ≤ KD) : FnOK Tryz.prog true 32 [.g (rmat n k q), .g (rmat k m p)] (.t2 (.g (matL n m fun r => sumR (A r) B k)) (.c (.int .i64 0))) := by
  have v1 := valid_yes (n := n) (m := k) (q := q) (by omega) (by omega)
  have v2 := valid_yes (n := k) (m := m) (q := p) (by omega) (by omega)
  have l1 := loadR_s hn hk hq hqv
  have l2 := loadR_s hk hm hp hpv
  have hQ : KD ≤ QS := by decide
  have t0 : ∀ i, i < n → FnOK Tryz.prog true 81 [.c (nql k (A i)), .c (rowsC k m B), .c (.int .i64 m)] (.c (nql m (sumR (A i) B k))) := fun i hi => by
    have h := times_ok (n := k) (m := m) (X := A i) (G := B) (by omega) (by omega) (fun j hj => Nat.le_trans (hA i j hi hj) hQ) (fun a b ha hb => Nat.le_trans (hB a b ha hb) hQ) fun a b ha hb => by
      rw [rowSum_su]
      exact Nat.le_trans (hS i a b hi (by omega) hb) hQ
    have e : rowSum (A i) B k = sumR (A i) B k := funext fun j => rowSum_su (A i) B k j
    rw [e] at h
    exact h
  have s0 := store_ok (n := n) (m := m) (G := fun r => sumR (A r) B k) hn hm
  obtain ⟨P, hP⟩ : ∃ P : Nat → Nat → Rat, P = fun r => sumR (A r) B k := ⟨_, rfl⟩
  rw [← hP] at s0 ⊢
  have t0 : ∀ i, i < n → FnOK Tryz.prog true 81 [.c (nql (mid2L m k i (i : Int).toNat) (mid2F P A i (i : Int).toNat)), .c (rowsC k m B), .c (.int .i64 m)] (.c (nql m (P i))) := fun i hi => by
    rw [show (i : Int).toNat = i by omega, show mid2L m k i i = k from if_neg (Nat.lt_irrefl i), show mid2F P A i i = A i from if_neg (Nat.lt_irrefl i), hP]
    exact t0 i hi
  have s0 : ∀ i, i = n → FnOK Tryz.prog true 77 [.c (.int .i64 m), .c (.row 1 n fun r _ => nql (mid2L m k i r) (mid2F P A i r))] (.g (matL n m P)) := fun i e => by
    refine arg_ok s0 fun D w vs h => ?_
    match vs, h with
    | [a, b], ⟨h1, h2, _⟩ =>
      refine ⟨h1, subRowG rfl (fun r j hr hj => ?_) D w b h2, trivial⟩
      show nql (mid2L m k i r) (mid2F P A i r) = nql m (P r)
      rw [show mid2L m k i r = m from if_pos (by omega), show mid2F P A i r = P r from if_pos (by omega)]
  clear hq hqv hp hpv hA hB hS hP
  refine fn_ok (E := E1) E1_ok Tryz.func32 rfl mixed (by kernel_rfl) (by kernel_rfl) ?_
  conv => whnf
  refine ⟨_, v1, ?_⟩
  conv => whnf
  refine ⟨_, v2, ?_⟩
  conv => whnf
  refine bneg (show (!decide ((k : Int) = k)) = false by simp) ?_
  conv => whnf
  refine ⟨_, _, l1, rfl, fun _ _ _ _ _ => rfl, rfl, rfl, ?_⟩
  conv => whnf
  refine ⟨_, _, l2, rfl, fun _ _ _ _ _ => rfl, rfl, rfl, ?_⟩
  conv => whnf
  refine loop_ints (fun i : Nat => gst [(3, .c (.p 0 0 3 0 0)), (4, .c (.p 1 0 3 0 0)), (6, .c (.gs 2 0)), (7, .c (rowsC k m B)), (30, .c (.int .i64 n)), (31, .c (.int .i64 i))] [⟨25, 3, 1, boxF (rmat k m p)⟩, ⟨25, 3, 1, boxF [.int .i64 0, .int .i64 0, .nil]⟩, ⟨22, 1, n, fun r _ => nql (mid2L m k i r) (mid2F P A i r)⟩]) (fun i => n - i) (fun i => i ≤ n) 0 rfl ?_ (Nat.zero_le _) fun i hi => ?_
  · exact Weak.gen [some 1, some 2, some 4] rfl ⟨boxK rfl rfl, boxK rfl rfl, ⟨_, rfl, rfl, rfl, rfl, rfl, fun a b ha hb => regE rfl rfl⟩, trivial⟩ ⟨⟨_, rfl, rfl, rfl⟩, ⟨_, rfl, rfl, rfl⟩, ⟨_, rfl, rfl, rfl⟩, .inr (.inr ⟨6, _, rfl, rfl, rfl, rfl, Nat.zero_le _, rfl, rfl, fun _ _ _ _ => ⟨rfl, rfl⟩⟩), ⟨_, rfl, rfl⟩, ⟨_, rfl, rfl⟩, trivial⟩
  have t0 := t0 i
  have s0 := s0 i
  conv => whnf
  refine bcase (fun (h : decide ((i : Int) < n) = true) => ?_) fun (h : decide ((i : Int) < n) = false) => ?_
  · have h := of_decide_eq_true h
    have t0 := t0 (by omega)
    conv => whnf
    refine ⟨by omega, by omega, ?_⟩
    conv => whnf
    refine ⟨_, t0, ?_⟩
    conv => whnf
    refine ⟨by omega, by omega, ?_⟩
    conv => whnf
    refine ⟨i64 (by omega) (by omega), ?_⟩
    conv => whnf
    exact ⟨i + 1, by omega, Weak.gen [some 0, some 1, some 2] rfl ⟨boxK rfl rfl, boxK rfl rfl, ⟨_, rfl, rfl, rfl, rfl, rfl, fun a b ha hb => mid2_at (fun _ => rfl) a b hb⟩, trivial⟩ ⟨⟨_, rfl, rfl, rfl⟩, ⟨_, rfl, rfl, rfl⟩, ⟨_, rfl, rfl, rfl⟩, .inl ⟨_, _, rfl, rfl, fun _ _ _ _ => rfl⟩, ⟨_, rfl, rfl⟩, ⟨_, rfl, rfl⟩, trivial⟩, by omega⟩
  · have h := of_decide_eq_false h
    have s0 := s0 (by omega)
    conv => whnf
    refine ⟨fun _ _ _ _ => rfl, ?_⟩
    conv => whnf
    refine ⟨_, s0, ?_⟩
    conv => whnf
    exact ⟨rfl, Sub.refl _⟩
end Rf
end Go.Proofs.YtigciplaoikcfaaGreat
/- Matrices in the program, whatever fractions their elements are: sums, multiples. -/
namespace Go.Proofs.YtigciplaoikcfaaGreat
open Go.RowKit
namespace Rf
/-- A box of three cells, cell by cell. -/
theorem reg_box3 {q : Nat} {bl : List Blk} {ks : List (Option Nat)} {l0 l1 l2 : Cell} {F : Nat → Nat → Cell} (h0 : regC q bl ks l0 fun y => F 0 0 = y) (h1 : regC q bl ks l1 fun y => F 0 1 = y) (h2 : regC q bl ks l2 fun y => F 0 2 = y) (a b : Nat) (ha : a < 1) (hb : b < 3) : regC q bl ks (boxF [l0, l1, l2] a b) fun y => F a b = y := by
  obtain rfl := Nat.lt_one_iff.1 ha
  match b, hb with
  | 0, _ => exact h0
  | 1, _ => exact h1
  | 2, _ => exact h2
set_option maxHeartbeats 3000000 in
theorem each_add {n m N : Nat} {q p : Nat → RawR} {z : Nat → Rat} (hN : n * m = N) (hn : n ≤ 64) (hm : m ≤ 64) (call : ∀ a, a < N → FnOK Tryz.prog true 84 [.g (rr (q a)), .g (rr (p a))] (.g (nq (z a)))) : FnOK Tryz.prog true 82 [.g [.int .i64 n, .int .i64 m, ql N q], .g [.int .i64 n, .int .i64 m, ql N p], .c (.fn 84)] (.t2 (.g [.int .i64 n, .int .i64 m, nql N z]) (.c (.int .i64 0))) := by
  have v1 : FnOK Tryz.prog true 73 [.g [.int .i64 n, .int .i64 m, ql N q]] (.c (.bool true)) := by rw [← hN]; exact valid_yes (by omega) (by omega)
  have v2 : FnOK Tryz.prog true 73 [.g [.int .i64 n, .int .i64 m, ql N p]] (.c (.bool true)) := by rw [← hN]; exact valid_yes (by omega) (by omega)
  have hN : N ≤ 4096 := by rw [← hN]; exact Nat.le_trans (Nat.mul_le_mul hn hm) (by decide)
  clear hn hm
  have call : ∀ a : Nat, a < N → FnOK Tryz.prog true 84 [.g (rr (q (a : Int).toNat)), .g (rr (p (a : Int).toNat))] (.g (nq (z a))) := fun a ha => call a ha
  refine fn_ok (E := E1) E1_ok Tryz.func82 rfl mixed (by kernel_rfl) (by kernel_rfl) ?_
  conv => whnf
  refine ⟨_, v1, ?_⟩
  conv => whnf
  refine ⟨_, v2, ?_⟩
  conv => whnf
  refine bpos (gw_true.2 (show (!decide ((n : Int) = n)) = false by simp)) ?_
  conv => whnf
  refine bneg (show (!decide ((m : Int) = m)) = false by simp) ?_
  conv => whnf
  refine ⟨by omega, Int.le_refl _, by omega, by show (64 : Int) * (N : Int) ≤ 281474976710656; omega, ?_⟩
  conv => whnf
  refine loop_ints (fun i : Nat => gst [(2, .c (.fn 84)), (3, .c (.p 0 0 3 0 0)), (4, .c (.p 1 0 3 0 0)), (6, .c (.p 2 0 3 0 0)), (8, .c (.p 3 0 3 0 0)), (44, .c (.int .i64 N)), (45, .c (.int .i64 i))] [⟨25, 3, 1, boxF [.int .i64 n, .int .i64 m, ql N q]⟩, ⟨25, 3, 1, boxF [.int .i64 n, .int .i64 m, ql N p]⟩, ⟨25, 3, 1, boxF [.int .i64 0, .int .i64 0, .nil]⟩, ⟨25, 3, 1, boxF [.int .i64 n, .int .i64 m, .gs 4 0]⟩, gqp N z i]) (fun i => N - i) (fun i => i ≤ N) 0 rfl ?_ (Nat.zero_le _) fun i hi => ?_
  · refine Weak.gen [some 0, some 1, some 2, some 12, some 10] rfl ⟨boxK rfl rfl, boxK rfl rfl, boxK rfl rfl, ⟨_, rfl, rfl, rfl, rfl, rfl, reg_box3 ⟨_, rfl, rfl⟩ ⟨_, rfl, rfl⟩ ⟨_, rfl, rfl, rfl⟩⟩, ⟨_, rfl, rfl, rfl, by show Int.toNat N = N; omega, rfl, fun k j hk hj => ?_⟩, trivial⟩ ⟨⟨rfl, rfl⟩, ⟨_, rfl, rfl, rfl⟩, ⟨_, rfl, rfl, rfl⟩, ⟨_, rfl, rfl, rfl⟩, ⟨_, rfl, rfl, rfl⟩, ⟨_, rfl, rfl⟩, ⟨_, rfl, rfl⟩, trivial⟩
    · exact regE (congrArg (fun l => l.getD j .any) (qp_zero z k).symm) (qp_clos k j)
  have call := call i
  conv => whnf
  refine bcase (fun (h : decide ((i : Int) < N) = true) => ?_) fun (h : decide ((i : Int) < N) = false) => ?_
  · have h := of_decide_eq_true h
    have call := call (by omega)
    conv => whnf
    refine ⟨by omega, by omega, ?_⟩
    conv => whnf
    refine ⟨by omega, by omega, ?_⟩
    conv => whnf
    refine ⟨_, call, ?_⟩
    conv => whnf
    refine ⟨by omega, by omega, ?_⟩
    conv => whnf
    refine ⟨i64 (by omega) (by omega), ?_⟩
    conv => whnf
    refine ⟨i + 1, by omega, Weak.gen [some 0, some 1, some 2, some 3, some 4] rfl ⟨boxK rfl rfl, boxK rfl rfl, boxK rfl rfl, ⟨_, rfl, rfl, rfl, rfl, rfl, reg_box3 ⟨_, rfl, rfl⟩ ⟨_, rfl, rfl⟩ ⟨_, rfl, rfl, rfl⟩⟩, ⟨_, rfl, rfl, rfl, rfl, rfl, fun j k hj hk => regE ?_ (qp_clos j k)⟩, trivial⟩ ⟨⟨rfl, rfl⟩, ⟨_, rfl, rfl, rfl⟩, ⟨_, rfl, rfl, rfl⟩, ⟨_, rfl, rfl, rfl⟩, ⟨_, rfl, rfl, rfl⟩, ⟨_, rfl, rfl⟩, ⟨_, rfl, rfl⟩, trivial⟩, by omega⟩
    · exact updG (sz := 4) (g := qpF z i) (g' := qpF z (i + 1)) (l := nq (z i)) rfl hk (qp_next z i j)
  · have h := of_decide_eq_false h
    have e : i = N := by omega
    have g : Sub (.t2 (.g [.int .i64 n, .int .i64 m, .row 4 N fun k j => (qpF z i k).getD j .any]) (.c (.int .i64 0))) (.t2 (.g [.int .i64 n, .int .i64 m, nql N z]) (.c (.int .i64 0))) := by
      rintro D w v ⟨x, y, h1, ⟨vs, h2, h3⟩, h4⟩
      refine ⟨x, y, h1, ⟨vs, h2, ?_⟩, h4⟩
      match vs.toList, h3 with
      | [a, b, c], ⟨g1, g2, g3, g4⟩ => exact ⟨g1, g2, subRowG rfl (fun k j hk hj => by rw [e]; exact qp_all hk j) D w c g3, g4⟩
    conv => whnf
    refine ⟨fun k j _ _ => qp_clos k j, ?_⟩
    conv => whnf
    exact ⟨rfl, g⟩
set_option maxHeartbeats 3000000 in
theorem each_scale {n m N : Nat} {q p : Nat → RawR} {z : Nat → Rat} {u : Nat → Cell} (hN : n * m = N) (hn : n ≤ 64) (hm : m ≤ 64) (call : ∀ a, a < N → FnOK Tryz.prog true 83 [.g (rr (q a)), .g (rr (p a)), .c (.xp 4 u)] (.g (nq (z a)))) : FnOK Tryz.prog true 82 [.g [.int .i64 n, .int .i64 m, ql N q], .g [.int .i64 n, .int .i64 m, ql N p], .c (.cl 83 1 fun _ => .xp 4 u)] (.t2 (.g [.int .i64 n, .int .i64 m, nql N z]) (.c (.int .i64 0))) := by
  have v1 : FnOK Tryz.prog true 73 [.g [.int .i64 n, .int .i64 m, ql N q]] (.c (.bool true)) := by rw [← hN]; exact valid_yes (by omega) (by omega)
  have v2 : FnOK Tryz.prog true 73 [.g [.int .i64 n, .int .i64 m, ql N p]] (.c (.bool true)) := by rw [← hN]; exact valid_yes (by omega) (by omega)
  have hN : N ≤ 4096 := by rw [← hN]; exact Nat.le_trans (Nat.mul_le_mul hn hm) (by decide)
  clear hn hm
  have call : ∀ a : Nat, a < N → FnOK Tryz.prog true 83 [.g (rr (q (a : Int).toNat)), .g (rr (p (a : Int).toNat)), .c (.xp 4 u)] (.g (nq (z a))) := fun a ha => call a ha
  refine fn_ok (E := E1) E1_ok Tryz.func82 rfl mixed (by kernel_rfl) (by kernel_rfl) ?_
  conv => whnf
  refine ⟨_, v1, ?_⟩
  conv => whnf
  refine ⟨_, v2, ?_⟩
  conv => whnf
  refine bpos (gw_true.2 (show (!decide ((n : Int) = n)) = false by simp)) ?_
  conv => whnf
  refine bneg (show (!decide ((m : Int) = m)) = false by simp) ?_
  conv => whnf
  refine ⟨by omega, Int.le_refl _, by omega, by show (64 : Int) * (N : Int) ≤ 281474976710656; omega, ?_⟩
  conv => whnf
  refine loop_ints (fun i : Nat => gst [(2, .c (.cl 83 1 fun _ => .xp 4 u)), (3, .c (.p 0 0 3 0 0)), (4, .c (.p 1 0 3 0 0)), (6, .c (.p 2 0 3 0 0)), (8, .c (.p 3 0 3 0 0)), (44, .c (.int .i64 N)), (45, .c (.int .i64 i))] [⟨25, 3, 1, boxF [.int .i64 n, .int .i64 m, ql N q]⟩, ⟨25, 3, 1, boxF [.int .i64 n, .int .i64 m, ql N p]⟩, ⟨25, 3, 1, boxF [.int .i64 0, .int .i64 0, .nil]⟩, ⟨25, 3, 1, boxF [.int .i64 n, .int .i64 m, .gs 4 0]⟩, gqp N z i]) (fun i => N - i) (fun i => i ≤ N) 0 rfl ?_ (Nat.zero_le _) fun i hi => ?_
  · refine Weak.gen [some 0, some 1, some 2, some 12, some 10] rfl ⟨boxK rfl rfl, boxK rfl rfl, boxK rfl rfl, ⟨_, rfl, rfl, rfl, rfl, rfl, reg_box3 ⟨_, rfl, rfl⟩ ⟨_, rfl, rfl⟩ ⟨_, rfl, rfl, rfl⟩⟩, ⟨_, rfl, rfl, rfl, by show Int.toNat N = N; omega, rfl, fun k j hk hj => ?_⟩, trivial⟩ ⟨⟨_, rfl, fun _ _ => ⟨rfl, rfl⟩⟩, ⟨_, rfl, rfl, rfl⟩, ⟨_, rfl, rfl, rfl⟩, ⟨_, rfl, rfl, rfl⟩, ⟨_, rfl, rfl, rfl⟩, ⟨_, rfl, rfl⟩, ⟨_, rfl, rfl⟩, trivial⟩
    · exact regE (congrArg (fun l => l.getD j .any) (qp_zero z k).symm) (qp_clos k j)
  have call := call i
  conv => whnf
  refine bcase (fun (h : decide ((i : Int) < N) = true) => ?_) fun (h : decide ((i : Int) < N) = false) => ?_
  · have h := of_decide_eq_true h
    have call := call (by omega)
    conv => whnf
    refine ⟨by omega, by omega, ?_⟩
    conv => whnf
    refine ⟨by omega, by omega, ?_⟩
    conv => whnf
    refine ⟨_, call, ?_⟩
    conv => whnf
    refine ⟨by omega, by omega, ?_⟩
    conv => whnf
    refine ⟨i64 (by omega) (by omega), ?_⟩
    conv => whnf
    refine ⟨i + 1, by omega, Weak.gen [some 0, some 1, some 2, some 3, some 4] rfl ⟨boxK rfl rfl, boxK rfl rfl, boxK rfl rfl, ⟨_, rfl, rfl, rfl, rfl, rfl, reg_box3 ⟨_, rfl, rfl⟩ ⟨_, rfl, rfl⟩ ⟨_, rfl, rfl, rfl⟩⟩, ⟨_, rfl, rfl, rfl, rfl, rfl, fun j k hj hk => regE ?_ (qp_clos j k)⟩, trivial⟩ ⟨⟨_, rfl, fun _ _ => ⟨rfl, rfl⟩⟩, ⟨_, rfl, rfl, rfl⟩, ⟨_, rfl, rfl, rfl⟩, ⟨_, rfl, rfl, rfl⟩, ⟨_, rfl, rfl, rfl⟩, ⟨_, rfl, rfl⟩, ⟨_, rfl, rfl⟩, trivial⟩, by omega⟩
    · exact updG (sz := 4) (g := qpF z i) (g' := qpF z (i + 1)) (l := nq (z i)) rfl hk (qp_next z i j)
  · have h := of_decide_eq_false h
    have e : i = N := by omega
    have g : Sub (.t2 (.g [.int .i64 n, .int .i64 m, .row 4 N fun k j => (qpF z i k).getD j .any]) (.c (.int .i64 0))) (.t2 (.g [.int .i64 n, .int .i64 m, nql N z]) (.c (.int .i64 0))) := by
      rintro D w v ⟨x, y, h1, ⟨vs, h2, h3⟩, h4⟩
      refine ⟨x, y, h1, ⟨vs, h2, ?_⟩, h4⟩
      match vs.toList, h3 with
      | [a, b, c], ⟨g1, g2, g3, g4⟩ => exact ⟨g1, g2, subRowG rfl (fun k j hk hj => by rw [e]; exact qp_all hk j) D w c g3, g4⟩
    conv => whnf
    refine ⟨fun k j _ _ => qp_clos k j, ?_⟩
    conv => whnf
    exact ⟨rfl, g⟩
theorem cap_weak {P : Program} {r : Bool} {f F : FuncId} {a b : V} {c : Cell} {g : Nat → Cell} {X : V} (h : FnOK P r f [a, b, .c (.cl F 1 fun _ => c)] X) (hg : g 0 = c) : FnOK P r f [a, b, .c (.cl F 1 g)] X :=
  arg_ok h fun D w vs h => by
    match vs, h with
    | [x, y, z], ⟨h1, h2, ⟨caps, e1, e2, e3⟩, _⟩ =>
      refine ⟨h1, h2, ⟨caps, e1, e2, fun j hj => ?_⟩, trivial⟩
      obtain rfl := Nat.lt_one_iff.1 hj
      obtain ⟨u, hu, hr⟩ := e3 0 hj
      rw [hg] at hr
      exact ⟨u, hu, hr⟩
set_option maxHeartbeats 4000000 in
theorem scale1_ok {q p : RawR} {x : RawR} {L : Nat} (hx : x.Fit L) (hq : q.Fit L) (hL : L + L + 3 ≤ LIM) : FnOK Tryz.prog true 83 [.g (rr q), .g (rr p), .c (.xp 4 fun j => boxF (rr x) 0 (0 + j))] (.g (nq (x.val * q.val))) := by
  have h := qmul_ok hx hq hL
  refine fn_ok (E := E1) E1_ok Tryz.func83 rfl mixed (by kernel_rfl) (by kernel_rfl) ?_
  conv => whnf
  refine ⟨_, h, ?_⟩
  conv => whnf
  exact ⟨rfl, Sub.refl _⟩
set_option maxHeartbeats 4000000 in
theorem addR_ok {n m : Nat} {q p : Nat → RawR} {z : Nat → Rat} {L : Nat} (hn : n ≤ 64) (hm : m ≤ 64) (hq : ∀ a, a < n * m → (q a).Fit L) (hp : ∀ a, a < n * m → (p a).Fit L) (hL : L + L + 4 ≤ LIM) (hz : ∀ a, a < n * m → (q a).val + (p a).val = z a) : FnOK Tryz.prog true 34 [.g (rmat n m q), .g (rmat n m p)] (.t2 (.g [.int .i64 n, .int .i64 m, nql (n * m) z]) (.c (.int .i64 0))) := by
  have h := each_add (q := q) (p := p) (z := z) rfl hn hm fun a ha => by
    rw [← hz a ha]
    exact qadd_ok (hq a ha) (hp a ha) hL
  clear hq hp hz
  refine fn_ok (E := E1) E1_ok Tryz.func34 rfl mixed (by kernel_rfl) (by kernel_rfl) ?_
  conv => whnf
  refine ⟨_, h, ?_⟩
  conv => whnf
  exact ⟨rfl, Sub.refl _⟩
set_option maxHeartbeats 4000000 in
theorem scaleR_ok {n m : Nat} {q : Nat → RawR} {x : RawR} {z : Nat → Rat} {L : Nat} (hn : n ≤ 64) (hm : m ≤ 64) (hq : ∀ a, a < n * m → (q a).Fit L) (hx : x.Fit L) (hL : L + L + 3 ≤ LIM) (hz : ∀ a, a < n * m → x.val * (q a).val = z a) : FnOK Tryz.prog true 33 [.g (rmat n m q), .g (rr x)] (.t2 (.g [.int .i64 n, .int .i64 m, nql (n * m) z]) (.c (.int .i64 0))) := by
  have h0 := each_scale (q := q) (p := q) (z := z) (u := fun j => boxF (rr x) 0 (0 + j)) rfl hn hm fun a ha => by
    rw [← hz a ha]
    exact scale1_ok hx (hq a ha) hL
  have h := fun (g : Nat → Cell) (hg : g 0 = .xp 4 fun j => boxF (rr x) 0 (0 + j)) => cap_weak (g := g) h0 hg
  clear hq hz hx
  refine fn_ok (E := E1) E1_ok Tryz.func33 rfl mixed (by kernel_rfl) (by kernel_rfl) ?_
  conv => whnf
  refine ⟨fun i j hi hj => box_clos (l := rr x) (i := i) (j := j) rfl, ?_⟩
  conv => whnf
  refine ⟨_, h _ rfl, ?_⟩
  conv => whnf
  exact ⟨rfl, Sub.refl _⟩
end Rf
end Go.Proofs.YtigciplaoikcfaaGreat
