/- Matrices in the program: rows stored. -/
import Derived.Test.YtnoecgnhepppkaaGreatRfN
import Derived.Test.YtnoecgnhepppkaaGreatCut
import Derived.Test.YtnoecgnhepppkaaGreatNfO
namespace Go.Proofs.YtnoecgnhepppkaaGreat
open Go.RowKit
namespace Rf
theorem one_ql {bl : List Blk} {c : Nat → RawR} (r : Bool) (i j : Nat) (hj : j < 4) : St.one bl (qlF c i j) = true ∧ (r = true → (qlF c i j).noU = true) := by
  match j, hj with
  | 0, _ => exact ⟨rfl, fun _ => rfl⟩
  | 1, _ => exact ⟨rfl, fun _ => rfl⟩
  | 2, _ => exact ⟨rfl, fun _ => rfl⟩
  | 3, _ => exact ⟨rfl, fun _ => rfl⟩
/-- A row is added to the places of a matrix. -/
theorem row_in {n m i a b : Nat} {G : Nat → Nat → Rat} (hi : i < n) (ha : a < i * m + m) : appF (i * m) (qlF fun k => ofR (G (k / m) (k % m))) (qlF fun k => ofR (G i k)) a b = qlF (fun k => ofR (G (k / m) (k % m))) a b := by
  unfold appF
  split
  · rfl
  · rename_i h
    obtain ⟨j, rfl⟩ : ∃ j, a = i * m + j := ⟨a - i * m, by omega⟩
    obtain ⟨_, e2, e3⟩ := mat_idx hi (show j < m by omega)
    refine qlF_eq ?_
    rw [e2, e3, show i * m + j - i * m = j by omega]
set_option maxHeartbeats 8000000 in
theorem store_ok {n m : Nat} {G : Nat → Nat → Rat} (hn : n ≤ 64) (hm : m ≤ 64) : FnOK Tryz.prog true 169 [.c (.int .i64 m), .c (rowsC n m G)] (.g (matL n m G)) := by
  have hnm : ∀ i, i ≤ n → i * m ≤ 4096 := fun i hi => Nat.le_trans (Nat.mul_le_mul (show i ≤ 64 by omega) hm) (by decide)
  refine fn_ok (E := E1) E1_ok Tryz.func169 rfl mixed (by kernel_rfl) (by kernel_rfl) ?_
  conv => whnf
  refine loop_ints (fun i : Nat => gst [(4, .c (.p 0 0 3 0 0)), (5, .c (.p 1 0 3 0 0)), (12, .c (rowsC n m G)), (13, .c (.int .i64 n)), (14, .c (.int .i64 i))] [⟨51, 3, 1, boxF [.int .i64 0, .int .i64 0, .nil]⟩, ⟨51, 3, 1, boxF [.int .i64 n, .int .i64 m, .gs 2 0]⟩, gqr (i * m) fun k => ofR (G (k / m) (k % m))]) (fun i => n - i) (fun i => i ≤ n) 0 rfl ?_ (Nat.zero_le _) fun i hi => ?_
  · refine Weak.gen [some 0, some 1, none] rfl ⟨boxK rfl rfl, ⟨_, rfl, rfl, rfl, rfl, rfl, fun a b ha hb => by
      obtain rfl := Nat.lt_one_iff.1 ha
      match b, hb with
      | 0, _ => exact ⟨_, rfl, rfl⟩
      | 1, _ => exact ⟨_, rfl, rfl⟩
      | 2, _ => exact rfl⟩, Nat.zero_mul m, trivial⟩ ⟨⟨_, rfl, rfl, rfl⟩, ⟨_, rfl, rfl, rfl⟩, .inl ⟨_, _, rfl, rfl, fun _ _ _ _ => rfl⟩, ⟨_, rfl, rfl⟩, ⟨_, rfl, rfl⟩, trivial⟩
  have e1 := hnm i hi
  conv => whnf
  refine bcase (fun (h : decide ((i : Int) < n) = true) => ?_) fun (h : decide ((i : Int) < n) = false) => ?_
  · have h := of_decide_eq_true h
    have hin : i < n := by omega
    conv => whnf
    refine ⟨by omega, by omega, ?_⟩
    conv => whnf
    refine ⟨by show i * m + m ≤ 16777216; omega, fun a b ha hb => one_ql (c := fun k => ofR (G i k)) _ a b hb, ?_⟩
    conv => whnf
    refine ⟨i64 (by omega) (by omega), ?_⟩
    conv => whnf
    exact ⟨i + 1, by omega, Weak.gen [some 0, some 1, some 2] rfl ⟨boxK rfl rfl, ⟨_, rfl, rfl, rfl, rfl, rfl, fun a b ha hb => by
      obtain rfl := Nat.lt_one_iff.1 ha
      match b, hb with
      | 0, _ => exact ⟨_, rfl, rfl⟩
      | 1, _ => exact ⟨_, rfl, rfl⟩
      | 2, _ => exact ⟨_, rfl, rfl, rfl⟩⟩, ⟨_, rfl, rfl, rfl, (Nat.succ_mul i m).symm, rfl, fun a b ha hb => regE (row_in hin (by have ha : a < (i + 1) * m := ha; rwa [Nat.succ_mul] at ha)) (ql_clos (c := fun k => ofR (G (k / m) (k % m))) a b)⟩, trivial⟩ ⟨⟨_, rfl, rfl, rfl⟩, ⟨_, rfl, rfl, rfl⟩, .inl ⟨_, _, rfl, rfl, fun _ _ _ _ => rfl⟩, ⟨_, rfl, rfl⟩, ⟨_, rfl, rfl⟩, trivial⟩, by omega⟩
  · have h := of_decide_eq_false h
    have e : i = n := by omega
    have g : Sub (.g [.int .i64 n, .int .i64 m, .row 4 (i * m) (qlF fun k => ofR (G (k / m) (k % m)))]) (.g (matL n m G)) := by rw [e]; exact Sub.refl _
    conv => whnf
    refine ⟨fun a b _ _ => ql_clos (c := fun k => ofR (G (k / m) (k % m))) a b, ?_⟩
    conv => whnf
    exact ⟨rfl, g⟩
end Rf
end Go.Proofs.YtnoecgnhepppkaaGreat
/- Matrices in the program: rows loaded. -/
namespace Go.Proofs.YtnoecgnhepppkaaGreat
open Go.RowKit
namespace Rf
/-- What is told of the cells of a grid: rows, then nothing. -/
structure Grd (m : Nat) (G : Nat → Nat → Rat) (F C : Nat → Nat → Cell) : Prop where
  old : ∀ i k, k < i → F i k = nql m (G k)
  new : ∀ i k, i ≤ k → F i k = .nil
  old' : ∀ i k, k < i → C i k = nql m (G k)
  at' : ∀ i, C i i = .gs 2 0
  new' : ∀ i k, i < k → C i k = .nil
theorem grd (m : Nat) (G : Nat → Nat → Rat) : ∃ F C, Grd m G F C :=
  ⟨fun i k => if k < i then nql m (G k) else .nil, fun i k => if k < i then nql m (G k) else if k = i then .gs 2 0 else .nil,
    fun _ _ h => if_pos h, fun _ _ h => if_neg (by omega), fun _ _ h => if_pos h, fun i => by
      show (if i < i then _ else if i = i then _ else _) = _
      rw [if_neg (Nat.lt_irrefl i), if_pos rfl], fun i k h => by
      show (if k < i then _ else if k = i then _ else _) = _
      rw [if_neg (by omega), if_neg (by omega)]⟩
abbrev gGrid (n : Nat) (f : Nat → Cell) : Gx := ⟨26, 1, n, fun k _ => f k⟩
theorem cell_keep {q : Nat} {bl : List Blk} {ks : List (Option Nat)} {m i : Nat} {G : Nat → Nat → Rat} {F C : Nat → Nat → Cell} (hg : Grd m G F C) (k : Nat) {g : Nat → Cell} (hgs : regC q bl ks (.gs 2 0) fun y => Cell.gs 2 0 = y) (e : g = C i) : regC q bl ks (C i k) fun y => g k = y := by
  subst e
  rcases Nat.lt_trichotomy k i with c | c | c
  · rw [hg.old' i k c]; exact regE rfl rfl
  · subst c; rw [hg.at']; exact hgs
  · rw [hg.new' i k c]; exact regE rfl rfl
set_option maxHeartbeats 16000000 in
theorem load_ok {n m : Nat} {G : Nat → Nat → Rat} (hn : n ≤ 64) (hm : m ≤ 64) (hq : ∀ i j, i < n → j < m → qlen (G i j) ≤ KD) : FnOK Tryz.prog true 128 [.g (matL n m G)] (.c (rowsC n m G)) := by
  obtain ⟨F, C, hg⟩ := grd m G
  have hnm : ∀ i, i ≤ n → (i : Int) * (m : Int) = ((i * m : Nat) : Int) ∧ i * m ≤ 4096 := fun i hi => ⟨by rw [Int.natCast_mul], Nat.le_trans (Nat.mul_le_mul (show i ≤ 64 by omega) hm) (by decide)⟩
  have n1 : ∀ i j, i < n → j < m → FnOK Tryz.prog true 207 [.g (nq (G (((i : Int) * (m : Int) + (j : Int)).toNat / m) (((i : Int) * (m : Int) + (j : Int)).toNat % m)))] (.g (nq (G i j))) := fun i j hi hj => by
    have e1 := (hnm i (by omega)).1
    obtain ⟨_, e2, e3⟩ := mat_idx hi hj
    rw [show ((i : Int) * (m : Int) + (j : Int)).toNat = i * m + j by rw [e1]; omega, e2, e3]
    have := qnormal_ok (q := ofR (G i j)) (ofR_fit (hq i j hi hj)) (by decide)
    rwa [ofR_val] at this
  clear hq
  refine fn_okS (E := E1) E1_ok Tryz.func128 rfl (by kernel_rfl) ?_
  refine swp_seq0 E1_ok mixed (by kernel_rfl) ?_
  conv => whnf
  refine swp_seq0 E1_ok mixed (by kernel_rfl) ?_
  conv => whnf
  refine ⟨by omega, Int.le_refl _, by omega, by show (24 : Int) * (n : Int) ≤ 281474976710656; omega, ?_⟩
  conv => whnf
  refine swp_seqS ?_
  refine swp_seq0 E1_ok mixed (by kernel_rfl) ?_
  conv => whnf
  refine swp_block ?_
  refine swp_loop (fun i : Nat => gst [(1, .c (.p 0 0 3 0 0)), (3, .c (.gs 1 0)), (10, .c (.int .i64 n)), (11, .c (.int .i64 i))] [⟨51, 3, 1, boxF (matL n m G)⟩, gGrid n (F i)]) (fun i => n - i) (fun i => i ≤ n) 0 ?_ (Nat.zero_le _) fun i hi => ?_
  · refine Weak.gen [some 0, some 1] rfl ⟨boxK rfl rfl, ⟨_, rfl, rfl, rfl, by show Int.toNat n = n; omega, rfl, fun k j hk hj => ?_⟩, trivial⟩ ⟨⟨_, rfl, rfl, rfl⟩, ⟨_, rfl, rfl, rfl⟩, ⟨_, rfl, by show (Int.toNat n : Int) = n; omega⟩, ⟨_, rfl, rfl⟩, trivial⟩
    obtain rfl := Nat.lt_one_iff.1 hj
    show regC 0 _ _ (F 0 k) _
    rw [hg.new 0 k (Nat.zero_le k)]
    exact ⟨rfl, rfl⟩
  have n1 := n1 i
  obtain ⟨e1, e2⟩ := hnm i hi
  have e3 := fun (a : i < n) (j : Nat) (b : j < m) => (mat_idx a b).1
  refine swp_seq0 E1_ok mixed (by kernel_rfl) ?_
  conv => whnf
  refine swp_seq0 E1_ok mixed (by kernel_rfl) ?_
  conv => whnf
  refine bcase (fun (h : decide ((i : Int) < n) = true) => ?_) fun (h : decide ((i : Int) < n) = false) => ?_
  · have h := of_decide_eq_true h
    conv => whnf
    refine swp_seqS (swp_block ?_)
    refine swp_seq0 E1_ok mixed (by kernel_rfl) ?_
    conv => whnf
    refine swp_seq E1_ok mixed (by kernel_rfl) ?_
    conv => whnf
    refine ⟨by omega, Int.le_refl _, by omega, by show (64 : Int) * (m : Int) ≤ 281474976710656; omega, ?_⟩
    conv => whnf
    refine ⟨by omega, by show (i : Int) < (n : Int); omega, ?_⟩
    conv => whnf
    refine ⟨gst [(1, .c (.p 0 0 3 0 0)), (3, .c (.gs 1 0)), (4, .c (.int .i64 i)), (10, .c (.int .i64 n)), (11, .c (.int .i64 i))] [⟨51, 3, 1, boxF (matL n m G)⟩, gGrid n (C i), gqr m (rmid (G i) 0)], Weak.gen [some 0, some 1, some 2] rfl ⟨boxK rfl rfl, ⟨_, rfl, rfl, rfl, rfl, rfl, fun k j hk hj => ?_⟩, ⟨_, rfl, rfl, rfl, by show Int.toNat m = m; omega, rfl, fun k j hk hj => ?_⟩, trivial⟩ ⟨⟨_, rfl, rfl, rfl⟩, ⟨_, rfl, rfl, rfl⟩, ⟨_, rfl, rfl⟩, ⟨_, rfl, rfl⟩, ⟨_, rfl, rfl⟩, trivial⟩, ?_⟩
    · obtain rfl := Nat.lt_one_iff.1 hj
      show regC 0 _ _ (C i k) fun z => updF (fun k _ => F i k) i 0 [.gs 2 0] k 0 = z
      rcases Nat.lt_trichotomy k i with c | c | c
      · rw [hg.old' i k c, show updF (fun k _ => F i k) i 0 [.gs 2 0] k 0 = nql m (G k) from (if_neg (fun h => by have := h.1; omega)).trans (hg.old i k c)]
        exact regE rfl rfl
      · subst c
        rw [hg.at', show updF (fun j _ => F k j) k 0 [.gs 2 0] k 0 = .gs 2 0 from if_pos ⟨rfl, Nat.le_refl 0, by decide⟩]
        exact ⟨_, rfl, rfl, rfl⟩
      · rw [hg.new' i k c, show updF (fun k _ => F i k) i 0 [.gs 2 0] k 0 = .nil from (if_neg (fun h => by have := h.1; omega)).trans (hg.new i k (by omega))]
        exact ⟨rfl, rfl⟩
    · show regC 0 _ _ (qlF (rmid (G i) 0) k j) _
      rw [rmid_zero]
      match j, hj with
      | 0, _ => exact ⟨_, rfl, rfl⟩
      | 1, _ => exact .inr (.inl ⟨rfl, rfl⟩)
      | 2, _ => exact ⟨_, rfl, rfl⟩
      | 3, _ => exact .inr (.inl ⟨rfl, rfl⟩)
    have hCi : C i (i : Int).toNat = .gs 2 0 := hg.at' i
    refine swp_seq E1_ok mixed (by kernel_rfl) ?_
    conv => whnf
    refine ⟨by omega, by show (i : Int) < (n : Int); omega, ?_⟩
    conv => whnf
    conv =>
      pattern lenA _ _
      change lenA _ (V.c (C i (i : Int).toNat))
      rw [hCi]
    conv => whnf
    refine ⟨gst [(1, .c (.p 0 0 3 0 0)), (3, .c (.gs 1 0)), (4, .c (.int .i64 i)), (10, .c (.int .i64 n)), (11, .c (.int .i64 i)), (24, .c (.int .i64 m)), (25, .c (.int .i64 0))] [⟨51, 3, 1, boxF (matL n m G)⟩, gGrid n (C i), gqr m (rmid (G i) 0)], Weak.gen [some 0, some 1, some 2] rfl ⟨boxK rfl rfl, ⟨_, rfl, rfl, rfl, rfl, rfl, fun k j hk hj => cell_keep hg k ⟨_, rfl, rfl, rfl⟩ rfl⟩, ⟨_, rfl, rfl, rfl, rfl, rfl, fun k j hk hj => regE rfl (ql_clos (c := rmid (G i) 0) k j)⟩, trivial⟩ ⟨⟨_, rfl, rfl, rfl⟩, ⟨_, rfl, rfl, rfl⟩, ⟨_, rfl, rfl⟩, ⟨_, rfl, rfl⟩, ⟨_, rfl, rfl⟩, ⟨_, rfl, rfl⟩, ⟨_, rfl, rfl⟩, trivial⟩, ?_⟩
    refine swp_of E1_ok mixed (by kernel_rfl) ?_
    conv => whnf
    refine loop_ints (fun j : Nat => gst [(1, .c (.p 0 0 3 0 0)), (3, .c (.gs 1 0)), (4, .c (.int .i64 i)), (10, .c (.int .i64 n)), (11, .c (.int .i64 i)), (24, .c (.int .i64 m)), (25, .c (.int .i64 j))] [⟨51, 3, 1, boxF (matL n m G)⟩, gGrid n (C i), gqr m (rmid (G i) j)]) (fun j => m - j) (fun j => j ≤ m) 0 rfl (Weak.gen [some 0, some 1, some 2] rfl ⟨boxK rfl rfl, ⟨_, rfl, rfl, rfl, rfl, rfl, fun k j hk hj => cell_keep hg k ⟨_, rfl, rfl, rfl⟩ rfl⟩, ⟨_, rfl, rfl, rfl, rfl, rfl, fun k j hk hj => regE rfl (ql_clos (c := rmid (G i) 0) k j)⟩, trivial⟩ ⟨⟨_, rfl, rfl, rfl⟩, ⟨_, rfl, rfl, rfl⟩, ⟨_, rfl, rfl⟩, ⟨_, rfl, rfl⟩, ⟨_, rfl, rfl⟩, ⟨_, rfl, rfl⟩, ⟨_, rfl, rfl⟩, trivial⟩) (Nat.zero_le _) fun j hj => ?_
    have n1 := fun a => n1 j (by omega) a
    have e3 := fun a => e3 (by omega) j a
    conv => whnf
    refine bcase (fun (h1 : decide ((j : Int) < m) = true) => ?_) fun (h1 : decide ((j : Int) < m) = false) => ?_
    · have h1 := of_decide_eq_true h1
      have n1 := n1 (by omega)
      have e3 := e3 (by omega)
      conv => whnf
      refine ⟨by omega, by show (i : Int) < (n : Int); omega, ?_⟩
      conv => whnf
      refine ⟨i64 (by rw [e1]; omega) (by rw [e1]; omega), ?_⟩
      conv => whnf
      refine ⟨i64 (by rw [e1]; omega) (by rw [e1]; omega), ?_⟩
      conv => whnf
      refine ⟨by rw [e1]; omega, by show (i : Int) * (m : Int) + (j : Int) < ((n * m : Nat) : Int); rw [e1]; omega, ?_⟩
      conv => whnf
      refine ⟨_, n1, ?_⟩
      conv => whnf
      refine ⟨by omega, ?_⟩
      conv =>
        pattern St.ev _ (Operand.tmp 31)
        change V.c (C i (i : Int).toNat)
        rw [hCi]
      conv => whnf
      refine ⟨by show (j : Int) < (m : Int); omega, ?_⟩
      conv => whnf
      refine ⟨i64 (by omega) (by omega), ?_⟩
      conv => whnf
      refine ⟨j + 1, by omega, Weak.gen [some 0, some 1, some 2] rfl ⟨boxK rfl rfl, ⟨_, rfl, rfl, rfl, rfl, rfl, fun k j hk hj => cell_keep hg k ⟨_, rfl, rfl, rfl⟩ rfl⟩, ⟨_, rfl, rfl, rfl, rfl, rfl, fun a b ha hb => regE ?_ (ql_clos (c := rmid (G i) (j + 1)) a b)⟩, trivial⟩ ⟨⟨_, rfl, rfl, rfl⟩, ⟨_, rfl, rfl, rfl⟩, ⟨_, rfl, rfl⟩, ⟨_, rfl, rfl⟩, ⟨_, rfl, rfl⟩, ⟨_, rfl, rfl⟩, ⟨_, rfl, rfl⟩, trivial⟩, by omega⟩
      exact updG (sz := 4) (g := fun k => rr (rmid (G i) j k)) (g' := fun k => rr (rmid (G i) (j + 1) k)) (l := nq (G i j)) rfl hb (rmid_next (G i) j a)
    · have h1 := of_decide_eq_false h1
      have ej : j = m := by omega
      conv => whnf
      refine swp_of E1_ok mixed (by kernel_rfl) ?_
      conv => whnf
      refine ⟨i64 (by omega) (by omega), ?_⟩
      conv => whnf
      refine ⟨i + 1, by omega, Weak.gen [some 0, some 1] rfl ⟨boxK rfl rfl, ⟨_, rfl, rfl, rfl, rfl, rfl, fun k l hk hl => ?_⟩, trivial⟩ ⟨⟨_, rfl, rfl, rfl⟩, ⟨_, rfl, rfl, rfl⟩, ⟨_, rfl, rfl⟩, ⟨_, rfl, rfl⟩, trivial⟩, by omega⟩
      obtain rfl := Nat.lt_one_iff.1 hl
      show regC 0 _ _ (F (i + 1) k) fun z => C i k = z
      rcases Nat.lt_trichotomy k i with c | c | c
      · rw [hg.old (i + 1) k (by omega), hg.old' i k c]
        exact regE rfl rfl
      · subst c
        rw [hg.old (k + 1) k (by omega), hg.at']
        exact .inr (.inr ⟨2, _, rfl, rfl, rfl, rfl, Nat.zero_le _, rfl, rfl, fun a b ha hb => ⟨qlF_eq (c := rmid (G k) j) (e := fun a => ofR (G k a)) (i := a) (k := a) (rmid_all (by omega)), ql_clos (c := fun a => ofR (G k a)) a b⟩⟩)
      · rw [hg.new (i + 1) k (by omega), hg.new' i k c]
        exact ⟨rfl, rfl⟩
  · have h := of_decide_eq_false h
    have e : i = n := by omega
    conv => whnf
    have g : Sub (.c (.row 1 n fun k _ => F i k)) (.c (rowsC n m G)) := subRowG rfl fun k j hk hj => hg.old i k (by omega)
    refine swp_of E1_ok mixed (by kernel_rfl) ?_
    conv => whnf
    refine ⟨fun a b ha hb => by show (F i a).clos = true; rw [hg.old i a (Nat.lt_of_lt_of_le ha (show n ≤ i by omega))]; rfl, ?_⟩
    conv => whnf
    exact ⟨rfl, g⟩
end Rf
end Go.Proofs.YtnoecgnhepppkaaGreat
/- Matrices in the program: from rows; the matrix of a multiplication. -/
namespace Go.Proofs.YtnoecgnhepppkaaGreat
open Go.RowKit
namespace Rf
set_option maxHeartbeats 4000000 in
theorem fits_yes {n : Nat} (hn : n ≤ 1024) : FnOK Tryz.prog true 168 [.c (.int .i64 n)] (.c (.bool true)) := by
  refine fn_ok (E := E1) E1_ok Tryz.func168 rfl mixed (by kernel_rfl) (by kernel_rfl) ?_
  conv => whnf
  exact ⟨rfl, sub_bool (decide_eq_true (by omega))⟩
set_option maxHeartbeats 8000000 in
theorem fromRows_ok {n m : Nat} {G : Nat → Nat → Rat} (hn : n ≤ 64) (hm : m ≤ 64) (hq : ∀ i j, i < n → j < m → qlen (G i j) ≤ KD) : FnOK Tryz.prog true 96 [.c (.int .i64 m), .c (rowsC n m G)] (.t2 (.g (matL n m G)) (.c (.int .i64 0))) := by
  have f1 := fits_yes (n := m) (by omega)
  have f2 := fits_yes (n := n) (by omega)
  have l0 := load_ok hn hm hq
  have s0 := store_ok (G := G) hn hm
  have hnm : ∀ i, i ≤ n → i * m ≤ 4096 := fun i hi => Nat.le_trans (Nat.mul_le_mul (show i ≤ 64 by omega) hm) (by decide)
  have l1 : ∀ i, i = n → FnOK Tryz.prog true 128 [.g [.int .i64 n, .int .i64 m, .row 4 (i * m) (qlF fun k => ofR (G (k / m) (k % m)))]] (.c (rowsC n m G)) := fun i e => by rw [e]; exact l0
  clear hq l0
  refine fn_ok (E := E1) E1_ok Tryz.func96 rfl mixed (by kernel_rfl) (by kernel_rfl) ?_
  conv => whnf
  refine ⟨_, f1, ?_⟩
  conv => whnf
  refine ⟨_, f2, ?_⟩
  conv => whnf
  refine loop_ints (fun i : Nat => gst [(0, .c (.int .i64 m)), (4, .c (.p 0 0 3 0 0)), (6, .c (.p 1 0 3 0 0)), (23, .c (rowsC n m G)), (24, .c (.int .i64 n)), (25, .c (.int .i64 i))] [⟨51, 3, 1, boxF [.int .i64 0, .int .i64 0, .nil]⟩, ⟨51, 3, 1, boxF [.int .i64 n, .int .i64 m, .gs 2 0]⟩, gqr (i * m) fun k => ofR (G (k / m) (k % m))]) (fun i => n - i) (fun i => i ≤ n) 0 rfl ?_ (Nat.zero_le _) fun i hi => ?_
  · refine Weak.gen [some 0, some 1, none] rfl ⟨boxK rfl rfl, ⟨_, rfl, rfl, rfl, rfl, rfl, fun a b ha hb => by
      obtain rfl := Nat.lt_one_iff.1 ha
      match b, hb with
      | 0, _ => exact ⟨_, rfl, rfl⟩
      | 1, _ => exact ⟨_, rfl, rfl⟩
      | 2, _ => exact rfl⟩, Nat.zero_mul m, trivial⟩ ⟨⟨_, rfl, rfl⟩, ⟨_, rfl, rfl, rfl⟩, ⟨_, rfl, rfl, rfl⟩, .inl ⟨_, _, rfl, rfl, fun _ _ _ _ => rfl⟩, ⟨_, rfl, rfl⟩, ⟨_, rfl, rfl⟩, trivial⟩
  have e1 := hnm i hi
  conv => whnf
  refine bcase (fun (h : decide ((i : Int) < n) = true) => ?_) fun (h : decide ((i : Int) < n) = false) => ?_
  · have h := of_decide_eq_true h
    have hin : i < n := by omega
    conv => whnf
    refine ⟨by omega, by omega, ?_⟩
    conv => whnf
    refine bneg (show (!decide ((m : Int) = m)) = false by simp) ?_
    conv => whnf
    refine ⟨by show i * m + m ≤ 16777216; omega, fun a b ha hb => one_ql (c := fun k => ofR (G i k)) _ a b hb, ?_⟩
    conv => whnf
    refine ⟨i64 (by omega) (by omega), ?_⟩
    conv => whnf
    exact ⟨i + 1, by omega, Weak.gen [some 0, some 1, some 2] rfl ⟨boxK rfl rfl, ⟨_, rfl, rfl, rfl, rfl, rfl, fun a b ha hb => by
      obtain rfl := Nat.lt_one_iff.1 ha
      match b, hb with
      | 0, _ => exact ⟨_, rfl, rfl⟩
      | 1, _ => exact ⟨_, rfl, rfl⟩
      | 2, _ => exact ⟨_, rfl, rfl, rfl⟩⟩, ⟨_, rfl, rfl, rfl, (Nat.succ_mul i m).symm, rfl, fun a b ha hb => regE (row_in hin (by have ha : a < (i + 1) * m := ha; rwa [Nat.succ_mul] at ha)) (ql_clos (c := fun k => ofR (G (k / m) (k % m))) a b)⟩, trivial⟩ ⟨⟨_, rfl, rfl⟩, ⟨_, rfl, rfl, rfl⟩, ⟨_, rfl, rfl, rfl⟩, .inl ⟨_, _, rfl, rfl, fun _ _ _ _ => rfl⟩, ⟨_, rfl, rfl⟩, ⟨_, rfl, rfl⟩, trivial⟩, by omega⟩
  · have h := of_decide_eq_false h
    have g := l1 i (by omega)
    conv => whnf
    refine ⟨fun a b _ _ => ql_clos (c := fun k => ofR (G (k / m) (k % m))) a b, ?_⟩
    conv => whnf
    refine ⟨_, g, ?_⟩
    conv => whnf
    refine ⟨_, s0, ?_⟩
    conv => whnf
    exact ⟨rfl, Sub.refl _⟩
set_option maxHeartbeats 8000000 in
theorem rmult_ok {d N tg : Nat} {f g : Nat → Rat} {q : Nat → RawR} {a : Nat → Nat → Rat} (hd : d ≤ 12) (h0 : FnOK Tryz.prog true 94 [ringP d f, .c (ql N q)] (.c (nql (Q.tq (a 0) d) (a 0)))) (hg : FnOK Tryz.prog true 95 [ringP d f] (.c (nql tg g)))
    (hc : ∀ i, i < d → FnOK Tryz.prog true 125 [ringP d f, .c (nql (Q.tq (a i) d) (a i))] (.c (nql d (a i)))) (hm : ∀ i, i < d → FnOK Tryz.prog true 62 [ringP d f, .c (nql (Q.tq (a i) d) (a i)), .c (nql tg g)] (.c (nql (Q.tq (a (i + 1)) d) (a (i + 1)))))
    (hF : FnOK Tryz.prog true 96 [.c (.int .i64 d), .c (rowsC d d a)] (.t2 (.g (matL d d a)) (.c (.int .i64 0)))) : FnOK Tryz.prog true 63 [ringP d f, .c (ql N q)] (.g (matL d d a)) := by
  have hF' : ∀ i, i = d → FnOK Tryz.prog true 96 [.c (.int .i64 (((d + 1 : Nat) : Int) - 1)), .c (.row 1 i fun k _ => nql d (a k))] (.t2 (.g (matL d d a)) (.c (.int .i64 0))) := fun i e => by
    rw [e, show ((d + 1 : Nat) : Int) - 1 = (d : Int) by omega]
    exact hF
  clear hF
  refine fn_ok (E := E1) E1_ok Tryz.func63 rfl mixed (by kernel_rfl) (by kernel_rfl) ?_
  conv => whnf
  refine ⟨_, h0, ?_⟩
  conv => whnf
  refine loop_ints (fun i : Nat => gst [(0, ringP d f), (4, .c (.p 0 0 3 0 0)), (5, .c (.gs 1 0)), (6, .c (nql (Q.tq (a i) d) (a i))), (15, .c (.int .i64 (((d + 1 : Nat) : Int) - 1))), (16, .c (.int .i64 i))] [⟨51, 3, 1, boxF [.int .i64 0, .int .i64 0, .nil]⟩, ⟨26, 1, i, fun k _ => nql d (a k)⟩]) (fun i => d - i) (fun i => i ≤ d) 0 rfl (Weak.gen [some 0, none] rfl ⟨boxK rfl rfl, rfl, trivial⟩ ⟨⟨rfl, rfl⟩, ⟨_, rfl, rfl, rfl⟩, rfl, .inl ⟨_, _, rfl, rfl, fun _ _ _ _ => rfl⟩, ⟨_, rfl, rfl⟩, ⟨_, rfl, rfl⟩, trivial⟩) (Nat.zero_le _) fun i hi => ?_
  have hc := hc i
  have hm := hm i
  have hF' := hF' i
  conv => whnf
  refine bcase (fun (h : decide ((i : Int) < ((d + 1 : Nat) : Int) - 1) = true) => ?_) fun (h : decide ((i : Int) < ((d + 1 : Nat) : Int) - 1) = false) => ?_
  · have h := of_decide_eq_true h
    have hc := hc (by omega)
    have hm := hm (by omega)
    conv => whnf
    refine ⟨_, hc, ?_⟩
    conv => whnf
    refine ⟨by show i + 1 ≤ 16777216; omega, fun a b ha hb => ?_, ?_⟩
    · match a, b, ha, hb with
      | 0, 0, _, _ => exact ⟨rfl, fun _ => rfl⟩
    conv => whnf
    refine ⟨_, hg, ?_⟩
    conv => whnf
    refine ⟨_, hm, ?_⟩
    conv => whnf
    refine ⟨i64 (by omega) (by omega), ?_⟩
    conv => whnf
    exact ⟨i + 1, by omega, Weak.gen [some 0, some 1] rfl ⟨boxK rfl rfl, ⟨_, rfl, rfl, rfl, rfl, rfl, fun k b ha hb => regApp (t := fun k => nql d (a k)) ha hb (fun _ => regE rfl rfl) (regE rfl rfl)⟩, trivial⟩ ⟨⟨rfl, rfl⟩, ⟨_, rfl, rfl, rfl⟩, ⟨_, rfl, rfl, rfl⟩, .inl ⟨_, _, rfl, rfl, fun _ _ _ _ => rfl⟩, ⟨_, rfl, rfl⟩, ⟨_, rfl, rfl⟩, trivial⟩, by omega⟩
  · have h := of_decide_eq_false h
    have hF' := hF' (by omega)
    conv => whnf
    refine ⟨fun _ _ _ _ => rfl, ?_⟩
    conv => whnf
    refine ⟨_, hF', ?_⟩
    conv => whnf
    exact ⟨rfl, Sub.refl _⟩
set_option maxHeartbeats 4000000 in
theorem nMult_ok {n d N : Nat} {c : Nat → RawZ} {f : Nat → Rat} {q : Nat → RawR} {a : Nat → Nat → Rat} (ho : FnOK Tryz.prog true 50 [.g [zl n c]] (.t2 (ringP d f) (.c (.int .i64 0)))) (hr : FnOK Tryz.prog true 63 [ringP d f, .c (ql N q)] (.g (matL d d a))) : FnOK Tryz.prog true 21 [.g [zl n c], .c (ql N q)] (.t2 (.g (matL d d a)) (.c (.int .i64 0))) := by
  refine fn_ok (E := E1) E1_ok Tryz.func21 rfl mixed (by kernel_rfl) (by kernel_rfl) ?_
  conv => whnf
  refine ⟨_, ho, ?_⟩
  conv => whnf
  refine ⟨_, hr, ?_⟩
  conv => whnf
  exact ⟨rfl, Sub.refl _⟩
end Rf
end Go.Proofs.YtnoecgnhepppkaaGreat
