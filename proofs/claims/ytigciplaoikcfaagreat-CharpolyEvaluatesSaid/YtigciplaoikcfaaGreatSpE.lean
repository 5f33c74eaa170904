/- Rows of fractions: zeros, normal forms. -/
import Derived.Test.YtigciplaoikcfaaGreatSpC
namespace Go.Proofs.YtigciplaoikcfaaGreat
open Go.RowKit
/-- A row of structs. -/
def rows (sz n : Nat) (g : Nat → List Cell) : V := .c (.row sz n fun i j => (g i).getD j .any)
theorem SubC.row {sz n : Nat} {f f' : Nat → Nat → Cell} (h : ∀ i j, i < n → j < sz → f i j = f' i j) : SubC (.row sz n f) (.row sz n f') := by
  rintro D w v ⟨A, c, rfl, h1, h3⟩
  refine ⟨A, c, rfl, h1, fun hn => ?_⟩
  obtain ⟨b, o, hA, hb, hD, hc⟩ := h3 hn
  refine ⟨b, o, hA, hb, hD, fun i j hi hj => ?_⟩
  rw [← h i j hi hj]
  exact hc i j hi hj
theorem Sub.row {sz n n' : Nat} {f f' : Nat → Nat → Cell} (hn : n = n') (h : ∀ i j, i < n → j < sz → f i j = f' i j) : Sub (.c (.row sz n f)) (.c (.row sz n' f')) := by
  subst hn
  exact fun D w v hv => SubC.row h D w v hv
theorem rr_clos (q : RawR) (j : Nat) (h : j < 4) : ((rr q).getD j .any).clos = true := by
  match j, h with
  | 0, _ => rfl
  | 1, _ => rfl
  | 2, _ => rfl
  | 3, _ => rfl
theorem qof0 : FnOK Tryz.prog true 66 [.c (.int .i64 0)] (.g (nq 0)) := qof_ok (n := 0) (by omega) (by omega)
theorem i64_range {n : Int} (h1 : -9223372036854775808 ≤ n) (h2 : n < 9223372036854775808) : inR .i64 n := ⟨h1, h2⟩
theorem clos_lt : ∀ {c : Cell} {m : Nat}, c.clos = true → c.lt m = true
  | .cl _ _ _, _, h => by
    simp only [Cell.clos, Cell.lt, List.all_eq_true, List.mem_range] at h ⊢
    exact fun j hj => clos_lt (h j hj)
  | .any, _, _ => rfl
  | .bool _, _, _ => rfl
  | .int _ _, _, _ => rfl
  | .nil, _, _ => rfl
  | .row _ _ _, _, _ => rfl
  | .xp _ _, _, _ => rfl
  | .fn _, _, _ => rfl
  | .str _, _, _ => rfl
  | .p .., _, h => by simp [Cell.clos] at h
  | .gs .., _, h => by simp [Cell.clos] at h
  | .sl .., _, h => by simp [Cell.clos] at h
theorem zeroF_clos {l : List Cell} (h : l.all Cell.clos = true) (i j : Nat) (hj : j < l.length) : (zeroF l i j).clos = true := by
  show (l.getD j .any).clos = true
  simp only [List.getD, List.getElem?_eq_getElem hj, Option.getD_some]
  exact List.all_eq_true.1 h _ (List.getElem_mem hj)
/-- A row that is filled from its start. -/
structure Filled (n i : Nat) (g : Nat → List Cell) (f : Nat → Nat → Cell) : Prop where
  done : ∀ i' j, i' < i → j < 4 → f i' j = (g i').getD j .any
  clos : ∀ i' j, i' < n → j < 4 → (f i' j).clos = true
theorem Filled.step {n i : Nat} {g : Nat → List Cell} {f : Nat → Nat → Cell} (h : Filled n i g f) {q : RawR} (hq : g i = rr q) : Filled n (i + 1) g (updF f i 0 (rr q)) := by
  constructor
  · intro i' j hi hj
    unfold updF
    by_cases e : i' = i
    · subst e
      rw [if_pos ⟨rfl, Nat.zero_le _, by simpa [rr] using hj⟩, hq]; rfl
    · rw [if_neg (fun h => e h.1)]; exact h.done i' j (by omega) hj
  · intro i' j hi hj
    unfold updF
    split
    · exact rr_clos q _ (by omega)
    · exact h.clos i' j hi hj
set_option maxHeartbeats 4000000 in
theorem zeros_ok {n : Nat} (hn : n ≤ 1048576) : FnOK Tryz.prog true 118 [.c (.int .i64 n)] (rows 4 n fun _ => nq 0) := by
  refine fn_ok (E := E1) E1_ok Tryz.func118 rfl mixed (by kernel_rfl) (by kernel_rfl) ?_
  conv => whnf
  refine ⟨by omega, by omega, by omega, by show ((64 : Nat) : Int) * (n : Int) ≤ _; omega, ?_⟩
  conv => whnf
  refine loop_inv (fun k σ => ∃ (i : Nat) (f : Nat → Nat → Cell), k = n - i ∧ i ≤ n ∧ Filled n i (fun _ => nq 0) f ∧ σ = ⟨asg [(3, .c (.gs 0 0)), (8, .c (.int .i64 n)), (9, .c (.int .i64 i))], [⟨63, 4, n, 0, 0, f⟩]⟩) n ?_ ?_
  · have hz := zeroF_clos (l := [.bool false, .nil, .bool false, .nil]) rfl
    refine ⟨_, Weak.cut (tl := [(3, .c (.gs 0 0)), (8, .c (.int .i64 n)), (9, .c (.int .i64 0))]) (bl' := [⟨63, 4, n, 0, 0, _⟩]) rfl ⟨rfl, rfl, rfl, trivial⟩ rfl ⟨fun _ i j _ hj => clos_lt (hz i j hj), trivial⟩ rfl, 0, _, rfl, by omega, ⟨fun i' j h => by omega, fun i j _ hj => hz i j hj⟩, rfl⟩
  · rintro k σ' ⟨i, f, hk, hi, hf, rfl⟩
    conv => whnf
    refine bcase (fun (h : decide ((i : Int) < n) = true) => ?_) fun (h : decide ((i : Int) < n) = false) => ?_
    · have h := of_decide_eq_true h
      conv => whnf
      refine ⟨_, qof0, ?_⟩
      conv => whnf
      refine ⟨by omega, by show ((i : Nat) : Int) < (n : Int); omega, ?_⟩
      conv => whnf
      refine ⟨i64_range (by omega) (by omega), ?_⟩
      conv => whnf
      have hf' := hf.step (q := ofR 0) rfl
      refine ⟨n - (i + 1), by omega, _, Weak.cut (tl := [(3, .c (.gs 0 0)), (8, .c (.int .i64 n)), (9, .c (.int .i64 (i + 1 : Nat)))]) (bl' := [⟨63, 4, n, 0, 0, _⟩]) rfl ⟨rfl, rfl, rfl, trivial⟩ rfl ⟨fun _ i j hi hj => clos_lt (hf'.clos i j hi hj), trivial⟩ rfl, i + 1, _, rfl, by omega, hf', rfl⟩
    · have h := of_decide_eq_false h
      obtain rfl : i = n := by omega
      conv => whnf
      refine ⟨hf.clos, ?_⟩
      conv => whnf
      refine ⟨rfl, Sub.row rfl fun i' j hi hj => hf.done i' j hi hj⟩
end Go.Proofs.YtigciplaoikcfaaGreat
/- Rows that are written: combine; vectors times rows. -/
namespace Go.Proofs.YtigciplaoikcfaaGreat
open Go.RowKit
/-- A row of normalized fractions. -/
def qrow (n : Nat) (A : Nat → Rat) : Cell := .row 4 n fun i j => (nq (A i)).getD j .any
def qblk (n : Nat) (A : Nat → Rat) : Blk := ⟨63, 4, n, 0, 0, fun i j => (nq (A i)).getD j .any⟩
theorem qblk_plain (n : Nat) (A : Nat → Rat) : (qblk n A).plain := fun _ _ _ _ hj => rr_clos _ _ hj
def QS : Nat := 274877906944
set_option maxHeartbeats 4000000 in
theorem nonzero_ok {q : RawR} {L : Nat} (h : q.Fit L) (hL : L + 3 ≤ LIM) : FnOK Tryz.prog true 119 [.g (rr q)] (.c (.bool (decide (q.val ≠ 0)))) := by
  refine fn_ok (E := E1) E1_ok Tryz.func119 rfl mixed (by kernel_rfl) (by kernel_rfl) ?_
  conv => whnf
  refine ⟨_, qsign_ok (q := q) h hL, ?_⟩
  conv => whnf
  refine ⟨rfl, Sub.bool ?_⟩
  show (!decide (q.val.num.sign = 0)) = decide (q.val ≠ 0)
  by_cases e : q.val = 0
  · simp [e]
  · have : ¬ q.val.num.sign = 0 := fun h => e ((rat_sign_zero _).1 h)
    simp [e]
theorem QS_lim : 3 * QS + 16 ≤ LIM := by decide
theorem qlen_mul {x y : Rat} {L L' : Nat} (hx : qlen x ≤ L) (hy : qlen y ≤ L') (h1 : 1 ≤ L + L') : qlen (x * y) ≤ L + L' := by
  have e : x * y = ratio (x.num * y.num) ((x.den : Int) * (y.den : Int)) := by
    rw [← ratio_mul, ratio_num_den, ratio_num_den]
  rw [e]
  unfold qlen at hx hy
  have a1 := zlen_mul x.num y.num
  have a2 := zlen_mul (x.den : Int) (y.den : Int)
  exact qlen_ratio (by omega) (by omega) h1
theorem upd_alike {n i : Nat} {A A' : Nat → Rat} {y : Rat} (h1 : A' i = y) (h2 : ∀ i', i' < n → i' ≠ i → A' i' = A i') : Blk.alike ⟨63, 4, n, 0, 0, updF (qblk n A).f i 0 (nq y)⟩ (qblk n A') := by
  refine ⟨rfl, fun i' j hi hj => ?_⟩
  show updF (qblk n A).f i 0 (nq y) i' j = (nq (A' i')).getD j .any
  unfold updF
  by_cases e : i' = i
  · subst e
    rw [if_pos ⟨rfl, Nat.zero_le _, by simpa [rr] using hj⟩, h1]; rfl
  · rw [if_neg (fun h => e h.1), h2 i' hi e]; rfl
theorem mid_alike {n : Nat} {A A' : Nat → Rat} (h2 : ∀ i', i' < n → A' i' = A i') : Blk.alike (qblk n A) (qblk n A') := by
  refine ⟨rfl, fun i' j hi hj => ?_⟩
  show (nq (A i')).getD j .any = (nq (A' i')).getD j .any
  rw [h2 i' hi]
def mid (A Bv : Nat → Rat) (x : Rat) (i i' : Nat) : Rat := if i' < i then A i' + x * Bv i' else A i'
theorem mid_self {A Bv : Nat → Rat} {x : Rat} {i : Nat} : mid A Bv x i i = A i := by simp [mid]
theorem mid_succ {A Bv : Nat → Rat} {x : Rat} {i : Nat} : mid A Bv x (i + 1) i = A i + x * Bv i := by simp [mid]
theorem mid_ne {A Bv : Nat → Rat} {x : Rat} {i i' : Nat} (h : i' ≠ i) : mid A Bv x (i + 1) i' = mid A Bv x i i' := by
  unfold mid
  by_cases e : i' < i
  · rw [if_pos e, if_pos (by omega)]
  · rw [if_neg e, if_neg (by omega)]
theorem qblk_lt (n m : Nat) (A : Nat → Rat) (i j : Nat) (hj : j < 4) : ((qblk n A).f i j).lt m = true := clos_lt (rr_clos _ _ hj)
theorem box_lt (q : RawR) (m i j : Nat) (hj : j < 4) : (boxF (rr q) i j).lt m = true := clos_lt (rr_clos _ _ hj)
theorem upd_clos {n i : Nat} {A : Nat → Rat} {y : Rat} (i' j : Nat) (hj : j < 4) : (updF (qblk n A).f i 0 (nq y) i' j).clos = true := by
  unfold updF
  split
  · exact rr_clos _ _ (by omega)
  · exact rr_clos _ _ hj
set_option maxHeartbeats 4000000 in
theorem combine_m {n : Nat} {A Bv : Nat → Rat} {x : Rat} (hn : n ≤ 1048576) (hA : ∀ i, i < n → qlen (A i) ≤ QS) (hB : ∀ i, i < n → qlen (Bv i) ≤ QS) (hx : qlen x ≤ QS) :
    FnM Tryz.prog true 120 (qblk n A) [.c (.gs 0 0), .c (qrow n Bv), .g (nq x), .c (.int .i64 0)] (.c .any) (qblk n fun i => A i + x * Bv i) [] := by
  have hQ := QS_lim
  have hQ1 : 1 ≤ QS := by decide
  refine fnm_ok (E := E1m) E1m_ok Tryz.func120 rfl mixed (by kernel_rfl) (by kernel_rfl) rfl ?_
  conv => whnf
  refine loop_inv (fun k σ => ∃ i : Nat, k = n - i ∧ i ≤ n ∧ σ = ⟨asg [(0, .c (.gs 0 0)), (1, .c (qrow n Bv)), (6, .c (.p 1 0 4 0 0)), (8, .c (.int .i64 i))], [qblk n (mid A Bv x i), ⟨63, 4, 1, 0, 0, boxF (nq x)⟩]⟩) n ?_ ?_
  · refine ⟨_, Weak.cut (tl := [(0, .c (.gs 0 0)), (1, .c (qrow n Bv)), (6, .c (.p 1 0 4 0 0)), (8, .c (.int .i64 0))]) (bl' := [qblk n (mid A Bv x 0), ⟨63, 4, 1, 0, 0, boxF (nq x)⟩]) rfl ⟨rfl, rfl, rfl, rfl, trivial⟩ rfl ⟨fun _ i j _ hj => qblk_lt _ _ _ i j hj, fun _ i j _ hj => box_lt _ _ i j hj, trivial⟩ rfl, 0, rfl, by omega, rfl⟩
  · rintro k σ' ⟨i, hk, hi, rfl⟩
    conv => whnf
    refine bcase (fun (h : decide ((i : Int) < n) = true) => ?_) fun (h : decide ((i : Int) < n) = false) => ?_
    · have h := of_decide_eq_true h
      have hin : i < n := by omega
      conv => whnf
      refine ⟨by omega, by show ((i : Nat) : Int) < (n : Int); omega, ?_⟩
      conv => whnf
      refine ⟨_, nonzero_ok (q := ofR (Bv i)) (ofR_fit (hB i hin)) (by omega), ?_⟩
      conv => whnf
      refine bcase (fun (h2 : decide ((ofR (Bv i)).val ≠ 0) = true) => ?_) fun (h2 : decide ((ofR (Bv i)).val ≠ 0) = false) => ?_
      · conv => whnf
        refine ⟨by omega, by show ((i : Nat) : Int) < (n : Int); omega, ?_⟩
        conv => whnf
        refine ⟨by omega, by show ((i : Nat) : Int) < (n : Int); omega, ?_⟩
        conv => whnf
        refine ⟨_, qmul_ok (q := ofR x) (p := ofR (Bv i)) (ofR_fit hx) (ofR_fit (hB i hin)) (by omega), ?_⟩
        conv => whnf
        refine ⟨_, qadd_ok (q := ofR (mid A Bv x i i)) (p := ofR ((ofR x).val * (ofR (Bv i)).val)) (ofR_fit (L := QS) (by rw [mid_self]; exact hA i hin)) (ofR_fit (L := QS + QS) (by rw [ofR_val, ofR_val]; exact qlen_mul hx (hB i hin) (by omega))) (by omega), ?_⟩
        conv => whnf
        refine ⟨by omega, by show ((i : Nat) : Int) < (n : Int); omega, ?_⟩
        conv => whnf
        refine ⟨i64_range (by omega) (by omega), ?_⟩
        conv => whnf
        refine ⟨n - (i + 1), by omega, _, (Weak.cut (tl := [(0, .c (.gs 0 0)), (1, .c (qrow n Bv)), (6, .c (.p 1 0 4 0 0)), (8, .c (.int .i64 (i + 1 : Nat)))]) (bl' := [⟨63, 4, n, 0, 0, updF (qblk n (mid A Bv x i)).f i 0 (nq ((ofR (mid A Bv x i i)).val + (ofR ((ofR x).val * (ofR (Bv i)).val)).val))⟩, ⟨63, 4, 1, 0, 0, boxF (nq x)⟩]) rfl ⟨rfl, rfl, rfl, rfl, trivial⟩ rfl ⟨fun _ i' j _ hj => clos_lt (upd_clos i' j hj), fun _ i j _ hj => box_lt _ _ i j hj, trivial⟩ rfl).trans (Weak.alike (bl' := [qblk n (mid A Bv x (i + 1)), _]) ⟨upd_alike (by rw [ofR_val, ofR_val, ofR_val, ofR_val, mid_self, mid_succ]) fun i' _ he => mid_ne he, Blk.alike.refl _, trivial⟩), i + 1, rfl, by omega, rfl⟩
      · have h2 : Bv i = 0 := by have := of_decide_eq_false h2; rw [ofR_val] at this; exact Decidable.not_not.1 this
        conv => whnf
        refine ⟨i64_range (by omega) (by omega), ?_⟩
        conv => whnf
        refine ⟨n - (i + 1), by omega, _, (Weak.cut (tl := [(0, .c (.gs 0 0)), (1, .c (qrow n Bv)), (6, .c (.p 1 0 4 0 0)), (8, .c (.int .i64 (i + 1 : Nat)))]) (bl' := [qblk n (mid A Bv x i), ⟨63, 4, 1, 0, 0, boxF (nq x)⟩]) rfl ⟨rfl, rfl, rfl, rfl, trivial⟩ rfl ⟨fun _ i j _ hj => qblk_lt _ _ _ i j hj, fun _ i j _ hj => box_lt _ _ i j hj, trivial⟩ rfl).trans (Weak.alike (bl' := [qblk n (mid A Bv x (i + 1)), _]) ⟨mid_alike fun i' _ => ?_, Blk.alike.refl _, trivial⟩), i + 1, rfl, by omega, rfl⟩
        by_cases e : i' = i
        · subst e; rw [mid_self, mid_succ, h2, Rat.mul_zero, Rat.add_zero]
        · exact mid_ne e
    · have h := of_decide_eq_false h
      obtain rfl : i = n := by omega
      conv => whnf
      exact (Weak.cut (m0 := 1) (tl := [(0, .c .any)]) (bl' := [qblk i (mid A Bv x i)]) rfl ⟨rfl, trivial⟩ rfl ⟨fun _ i j _ hj => qblk_lt _ _ _ i j hj, trivial⟩ rfl).trans (Weak.alike (bl' := [qblk i fun i => A i + x * Bv i]) ⟨mid_alike fun i' hi' => by unfold mid; rw [if_pos hi'], trivial⟩)
set_option maxHeartbeats 4000000 in
theorem zeros_m {n : Nat} (hn : n ≤ 1048576) : FnM Tryz.prog true 118 phB [.c (.int .i64 n)] (.c (.gs 1 0)) phB [qblk n fun _ => 0] := by
  refine fnm_ok (E := E1m) E1m_ok Tryz.func118 rfl mixed (by kernel_rfl) (by kernel_rfl) rfl ?_
  conv => whnf
  refine ⟨by omega, by omega, by omega, by show ((64 : Nat) : Int) * (n : Int) ≤ _; omega, ?_⟩
  conv => whnf
  refine loop_inv (fun k σ => ∃ (i : Nat) (f : Nat → Nat → Cell), k = n - i ∧ i ≤ n ∧ Filled n i (fun _ => nq 0) f ∧ σ = ⟨asg [(3, .c (.gs 1 0)), (8, .c (.int .i64 n)), (9, .c (.int .i64 i))], [phB, ⟨63, 4, n, 0, 0, f⟩]⟩) n ?_ ?_
  · have hz := zeroF_clos (l := [.bool false, .nil, .bool false, .nil]) rfl
    refine ⟨_, Weak.cut (tl := [(3, .c (.gs 1 0)), (8, .c (.int .i64 n)), (9, .c (.int .i64 0))]) (bl' := [phB, ⟨63, 4, n, 0, 0, _⟩]) rfl ⟨rfl, rfl, rfl, trivial⟩ rfl ⟨fun h => absurd h (by decide), fun _ i j _ hj => clos_lt (hz i j hj), trivial⟩ rfl, 0, _, rfl, by omega, ⟨fun i' j h => by omega, fun i j _ hj => hz i j hj⟩, rfl⟩
  · rintro k σ' ⟨i, f, hk, hi, hf, rfl⟩
    conv => whnf
    refine bcase (fun (h : decide ((i : Int) < n) = true) => ?_) fun (h : decide ((i : Int) < n) = false) => ?_
    · have h := of_decide_eq_true h
      conv => whnf
      refine ⟨_, qof0, ?_⟩
      conv => whnf
      refine ⟨by omega, by show ((i : Nat) : Int) < (n : Int); omega, ?_⟩
      conv => whnf
      refine ⟨i64_range (by omega) (by omega), ?_⟩
      conv => whnf
      have hf' := hf.step (q := ofR 0) rfl
      refine ⟨n - (i + 1), by omega, _, Weak.cut (tl := [(3, .c (.gs 1 0)), (8, .c (.int .i64 n)), (9, .c (.int .i64 (i + 1 : Nat)))]) (bl' := [phB, ⟨63, 4, n, 0, 0, _⟩]) rfl ⟨rfl, rfl, rfl, trivial⟩ rfl ⟨fun h => absurd h (by decide), fun _ i j hi hj => clos_lt (hf'.clos i j hi hj), trivial⟩ rfl, i + 1, _, rfl, by omega, hf', rfl⟩
    · have h := of_decide_eq_false h
      obtain rfl : i = n := by omega
      conv => whnf
      exact (Weak.cut (m0 := 1) (tl := [(0, .c (.gs 1 0))]) (bl' := [phB, ⟨63, 4, i, 0, 0, f⟩]) rfl ⟨rfl, trivial⟩ rfl ⟨fun h => absurd h (by decide), fun _ i j hi hj => clos_lt (hf.clos i j hi hj), trivial⟩ rfl).trans (Weak.alike (bl' := [phB, qblk i fun _ => 0]) ⟨Blk.alike.refl _, ⟨rfl, fun i' j hi hj => hf.done i' j hi hj⟩, trivial⟩)
/-- The sum of the multiples of rows. -/
def rowSum (X : Nat → Rat) (G : Nat → Nat → Rat) : Nat → Nat → Rat
  | 0, _ => 0
  | i + 1, j => rowSum X G i j + X i * G i j
set_option maxHeartbeats 4000000 in
theorem times_ok {n m : Nat} {X : Nat → Rat} {G : Nat → Nat → Rat} (hn : n ≤ 1048576) (hm : m ≤ 1048576) (hX : ∀ i, i < n → qlen (X i) ≤ QS) (hG : ∀ i j, i < n → j < m → qlen (G i j) ≤ QS) (hS : ∀ i j, i < n → j < m → qlen (rowSum X G i j) ≤ QS) :
    FnOK Tryz.prog true 81 [.c (qrow n X), .c (.row 1 n fun i _ => qrow m (G i)), .c (.int .i64 m)] (.c (qrow m (rowSum X G n))) := by
  have hQ := QS_lim
  refine fn_ok (E := E1) E1_ok Tryz.func81 rfl mixed (by kernel_rfl) (by kernel_rfl) ?_
  conv => whnf
  refine .inl ⟨[], true, ?_⟩
  conv => whnf
  refine ⟨0, phB, [.c (.int .i64 m)], _, _, _, zeros_m hm, rfl, .inr (Nat.le_refl 2), fun h => absurd h (by decide), fun h => absurd h (by decide), fun F hF => ?_, rfl, rfl, ?_⟩
  · simp at hF; subst hF; exact qblk_plain _ _
  conv => whnf
  refine loop_inv (fun k σ => ∃ i : Nat, k = n - i ∧ i ≤ n ∧ σ = ⟨asg [(0, .c (qrow n X)), (1, .c (.row 1 n fun i _ => qrow m (G i))), (7, .c (.gs 1 0)), (12, .c (.int .i64 n)), (13, .c (.int .i64 i))], [phB, qblk m (rowSum X G i)]⟩) n ?_ ?_
  · refine ⟨_, Weak.cut (tl := [(0, .c (qrow n X)), (1, .c (.row 1 n fun i _ => qrow m (G i))), (7, .c (.gs 1 0)), (12, .c (.int .i64 n)), (13, .c (.int .i64 0))]) (bl' := [phB, qblk m (rowSum X G 0)]) rfl ⟨rfl, rfl, rfl, rfl, rfl, trivial⟩ rfl ⟨fun h => absurd h (by decide), fun _ i j _ hj => qblk_lt _ _ _ i j hj, trivial⟩ rfl, 0, rfl, by omega, rfl⟩
  · rintro k σ' ⟨i, hk, hi, rfl⟩
    conv => whnf
    refine bcase (fun (h : decide ((i : Int) < n) = true) => ?_) fun (h : decide ((i : Int) < n) = false) => ?_
    · have h := of_decide_eq_true h
      have hin : i < n := by omega
      conv => whnf
      refine ⟨by omega, by show ((i : Nat) : Int) < (n : Int); omega, ?_⟩
      conv => whnf
      refine ⟨_, nonzero_ok (q := ofR (X i)) (ofR_fit (hX i hin)) (by omega), ?_⟩
      conv => whnf
      refine bcase (fun (h2 : decide ((ofR (X i)).val ≠ 0) = true) => ?_) fun (h2 : decide ((ofR (X i)).val ≠ 0) = false) => ?_
      · conv => whnf
        refine ⟨by omega, by show ((i : Nat) : Int) < (n : Int); omega, ?_⟩
        conv => whnf
        refine ⟨by omega, by show ((i : Nat) : Int) < (n : Int); omega, ?_⟩
        conv => whnf
        refine ⟨1, qblk m (rowSum X G i), [.c (.gs 0 0), .c (qrow m (G i)), .g (nq (X i)), .c (.int .i64 0)], .c .any, _, combine_m hm (hS i · hin) (hG i · hin) (hX i hin), rfl, rfl, qblk_plain _ _, qblk_plain _ _, rfl, rfl, rfl, ⟨_, List.Mem.head _, rfl⟩, rfl, rfl, ?_⟩
        conv => whnf
        refine ⟨i64_range (by omega) (by omega), ?_⟩
        conv => whnf
        refine ⟨n - (i + 1), by omega, _, Weak.cut (tl := [(0, .c (qrow n X)), (1, .c (.row 1 n fun i _ => qrow m (G i))), (7, .c (.gs 1 0)), (12, .c (.int .i64 n)), (13, .c (.int .i64 (i + 1 : Nat)))]) (bl' := [phB, qblk m (rowSum X G (i + 1))]) rfl ⟨rfl, rfl, rfl, rfl, rfl, trivial⟩ rfl ⟨fun h => absurd h (by decide), fun _ i j _ hj => qblk_lt _ _ _ i j hj, trivial⟩ rfl, i + 1, rfl, by omega, rfl⟩
      · have h2 : X i = 0 := by have := of_decide_eq_false h2; rw [ofR_val] at this; exact Decidable.not_not.1 this
        conv => whnf
        refine ⟨i64_range (by omega) (by omega), ?_⟩
        conv => whnf
        refine ⟨n - (i + 1), by omega, _, (Weak.cut (tl := [(0, .c (qrow n X)), (1, .c (.row 1 n fun i _ => qrow m (G i))), (7, .c (.gs 1 0)), (12, .c (.int .i64 n)), (13, .c (.int .i64 (i + 1 : Nat)))]) (bl' := [phB, qblk m (rowSum X G i)]) rfl ⟨rfl, rfl, rfl, rfl, rfl, trivial⟩ rfl ⟨fun h => absurd h (by decide), fun _ i j _ hj => qblk_lt _ _ _ i j hj, trivial⟩ rfl).trans (Weak.alike (bl' := [phB, qblk m (rowSum X G (i + 1))]) ⟨Blk.alike.refl _, mid_alike fun j _ => ?_, trivial⟩), i + 1, rfl, by omega, rfl⟩
        show rowSum X G i j + X i * G i j = rowSum X G i j
        rw [h2, Rat.zero_mul, Rat.add_zero]
    · have h := of_decide_eq_false h
      obtain rfl : i = n := by omega
      conv => whnf
      refine ⟨fun i' j _ hj => rr_clos _ _ hj, ?_⟩
      conv => whnf
      exact ⟨rfl, Sub.refl _⟩
end Go.Proofs.YtigciplaoikcfaaGreat
/- Matrices: rows put one behind the other. -/
namespace Go.Proofs.YtigciplaoikcfaaGreat
open Go.RowKit
/-- The elements of a matrix, row by row. -/
def flat (m : Nat) (G : Nat → Nat → Rat) (x : Nat) : Rat := G (x / m) (x % m)
/-- A matrix of normalized fractions. -/
def qmat (n m : Nat) (G : Nat → Nat → Rat) : V := .g [.int .i64 n, .int .i64 m, qrow (n * m) (flat m G)]
def qblkU (u n : Nat) (A : Nat → Rat) : Blk := ⟨63, 4, n, u, 0, fun i j => (nq (A i)).getD j .any⟩
theorem rr_one (bl : List Blk) (q : RawR) (j : Nat) (h : j < 4) : St.one bl ((rr q).getD j .any) = true := by
  match j, h with
  | 0, _ => rfl
  | 1, _ => rfl
  | 2, _ => rfl
  | 3, _ => rfl
theorem rr_noU (q : RawR) (j : Nat) (h : j < 4) : ((rr q).getD j .any).noU = true := by
  match j, h with
  | 0, _ => rfl
  | 1, _ => rfl
  | 2, _ => rfl
  | 3, _ => rfl
theorem flat_app {i m u : Nat} {G : Nat → Nat → Rat} : Blk.alike ⟨63, 4, i * m + m, u, 0, appF (i * m) (qblkU u (i * m) (flat m G)).f fun a b => (nq (G i a)).getD b .any⟩ (qblkU u ((i + 1) * m) (flat m G)) := by
  have e : i * m + m = (i + 1) * m := by rw [Nat.succ_mul]
  refine ⟨by unfold qblkU; rw [e], fun x j hx hj => ?_⟩
  have hx : x < i * m + m := hx
  show appF (i * m) (qblkU u (i * m) (flat m G)).f (fun a b => (nq (G i a)).getD b .any) x j = (nq (flat m G x)).getD j .any
  unfold appF
  by_cases h : x < i * m
  · rw [if_pos h]; rfl
  · rw [if_neg h]
    obtain ⟨d, rfl⟩ := Nat.exists_eq_add_of_le (show i * m ≤ x by omega)
    have hm : 0 < m := by omega
    have q1 : (i * m + d) / m = i := by rw [Nat.mul_comm, Nat.mul_add_div hm, Nat.div_eq_of_lt (by omega)]; rfl
    have q2 : (i * m + d) % m = d := by rw [Nat.mul_comm, Nat.mul_add_mod, Nat.mod_eq_of_lt (by omega)]
    unfold flat
    rw [q1, q2, Nat.add_sub_cancel_left]
theorem boxM_lt (n m i j : Nat) (c : Cell) (hc : c.lt 3 = true) (hj : j < 3) : (boxF [.int .i64 n, .int .i64 m, c] i j).lt 3 = true := by
  match j, hj with
  | 0, _ => rfl
  | 1, _ => rfl
  | 2, _ => exact hc
set_option maxHeartbeats 4000000 in
theorem store_ok {n m : Nat} {G : Nat → Nat → Rat} (hn : n ≤ 1024) (hm : m ≤ 1024) : FnOK Tryz.prog true 77 [.c (.int .i64 m), .c (.row 1 n fun i _ => qrow m (G i))] (qmat n m G) := by
  refine fn_ok (E := E1) E1_ok Tryz.func77 rfl mixed (by kernel_rfl) (by kernel_rfl) ?_
  conv => whnf
  refine loop_inv (fun k σ => ∃ i : Nat, k = n - i ∧ i ≤ n ∧ σ = ⟨asg [(4, .c (.p 0 0 3 0 0)), (5, .c (.p 1 0 3 0 0)), (12, .c (.row 1 n fun i _ => qrow m (G i))), (13, .c (.int .i64 n)), (14, .c (.int .i64 i))], [⟨25, 3, 1, 0, 0, boxF [.int .i64 0, .int .i64 0, .nil]⟩, ⟨25, 3, 1, 0, 0, boxF [.int .i64 n, .int .i64 m, .gs 2 0]⟩, qblkU 0 (i * m) (flat m G)]⟩) n ?_ ?_
  · refine ⟨_, (Weak.cut (tl := [(4, .c (.p 0 0 3 0 0)), (5, .c (.p 1 0 3 0 0)), (12, .c (.row 1 n fun i _ => qrow m (G i))), (13, .c (.int .i64 n)), (14, .c (.int .i64 0))]) (bl' := [⟨25, 3, 1, 0, 0, boxF [.int .i64 0, .int .i64 0, .nil]⟩, ⟨25, 3, 1, 0, 0, updF (boxF [.int .i64 0, .int .i64 0, .nil]) 0 0 [.int .i64 n, .int .i64 m, .nil]⟩]) rfl ⟨rfl, rfl, rfl, rfl, rfl, trivial⟩ rfl ⟨fun _ i j _ hj => ?_, fun _ i j (hi : i < 1) hj => ?_, trivial⟩ rfl).trans ((Weak.nil (tm := asg [(4, .c (.p 0 0 3 0 0)), (5, .c (.p 1 0 3 0 0)), (12, .c (.row 1 n fun i _ => qrow m (G i))), (13, .c (.int .i64 n)), (14, .c (.int .i64 0))]) (bl := [⟨25, 3, 1, 0, 0, boxF [.int .i64 0, .int .i64 0, .nil]⟩, ⟨25, 3, 1, 0, 0, updF (boxF [.int .i64 0, .int .i64 0, .nil]) 0 0 [.int .i64 n, .int .i64 m, .nil]⟩]) (tm' := asg [(4, .c (.p 0 0 3 0 0)), (5, .c (.p 1 0 3 0 0)), (12, .c (.row 1 n fun i _ => qrow m (G i))), (13, .c (.int .i64 n)), (14, .c (.int .i64 0))]) (bl' := [⟨25, 3, 1, 0, 0, boxF [.int .i64 0, .int .i64 0, .nil]⟩, ⟨25, 3, 1, 0, 0, boxF [.int .i64 n, .int .i64 m, .gs 2 0]⟩]) 63 4 ⟨Blk.nilLike.refl _ _, ⟨rfl, fun h => absurd rfl h, fun i j hi hj => ?_⟩, trivial⟩ fun t => .inl rfl).trans (Weak.alike (bl' := [_, _, qblkU 0 (0 * m) (flat m G)]) ⟨Blk.alike.refl _, Blk.alike.refl _, ⟨by unfold qblkU; rw [Nat.zero_mul], fun i j hi hj => ?_⟩, trivial⟩)), 0, rfl, by omega, rfl⟩
    · match j, hj with
      | 0, _ => rfl
      | 1, _ => rfl
      | 2, _ => rfl
    · obtain rfl : i = 0 := by omega
      match j, hj with
      | 0, _ => rfl
      | 1, _ => rfl
      | 2, _ => rfl
    · obtain rfl : i = 0 := by have hi : i < 1 := hi
                               omega
      match j, hj with
      | 0, _ => exact .inl rfl
      | 1, _ => exact .inl rfl
      | 2, _ => exact .inr ⟨rfl, rfl⟩
    · have hi : i < 0 := hi
      omega
  · rintro k σ' ⟨i, hk, hi, rfl⟩
    conv => whnf
    refine bcase (fun (h : decide ((i : Int) < n) = true) => ?_) fun (h : decide ((i : Int) < n) = false) => ?_
    · have h := of_decide_eq_true h
      have hin : i < n := by omega
      have hle : i * m + m ≤ 1024 * 1024 := by
        have := Nat.mul_le_mul (show i + 1 ≤ 1024 by omega) hm
        rw [Nat.succ_mul] at this; omega
      conv => whnf
      refine ⟨by omega, by show ((i : Nat) : Int) < (n : Int); omega, ?_⟩
      conv => whnf
      refine ⟨by show i * m + m ≤ 16777216; omega, fun a b _ hb => ⟨rr_one _ _ _ hb, fun _ => rr_noU _ _ hb⟩, ?_⟩
      conv => whnf
      refine ⟨i64_range (by omega) (by omega), ?_⟩
      conv => whnf
      have hac : ∀ a b, b < 4 → (appF (i * m) (qblkU 0 (i * m) (flat m G)).f (fun a b => (nq (G i a)).getD b .any) a b).clos = true := fun a b hb => by
        unfold appF
        split
        · exact rr_clos _ _ hb
        · exact rr_clos _ _ hb
      refine ⟨n - (i + 1), by omega, _, (Weak.cut (tl := [(4, .c (.p 0 0 3 0 0)), (5, .c (.p 1 0 3 0 0)), (12, .c (.row 1 n fun i _ => qrow m (G i))), (13, .c (.int .i64 n)), (14, .c (.int .i64 ((i + 1 : Nat) : Int)))]) (bl' := [⟨25, 3, 1, 0, 0, boxF [.int .i64 0, .int .i64 0, .nil]⟩, ⟨25, 3, 1, 0, 0, updF (boxF [.int .i64 n, .int .i64 m, .gs 2 0]) 0 2 [.gs 2 1]⟩, ⟨63, 4, i * m + m, 1, 0, appF (i * m) (qblkU 0 (i * m) (flat m G)).f fun a b => (nq (G i a)).getD b .any⟩]) rfl ⟨rfl, rfl, rfl, rfl, rfl, trivial⟩ rfl ⟨fun _ i j _ hj => ?_, fun _ i j (hi : i < 1) hj => ?_, fun _ i j _ hj => clos_lt (hac i j hj), trivial⟩ rfl).trans ((Weak.reset (m0 := 0) 2 (B := ⟨63, 4, i * m + m, 1, 0, appF (i * m) (qblkU 0 (i * m) (flat m G)).f fun a b => (nq (G i a)).getD b .any⟩) rfl (by show 0 ≤ 1; omega) rfl).trans ((Weak.cut (tl := [(4, .c (.p 0 0 3 0 0)), (5, .c (.p 1 0 3 0 0)), (12, .c (.row 1 n fun i _ => qrow m (G i))), (13, .c (.int .i64 n)), (14, .c (.int .i64 ((i + 1 : Nat) : Int)))]) (bl' := [⟨25, 3, 1, 0, 0, fun x y => resetC 2 1 (boxF [.int .i64 0, .int .i64 0, .nil] x y)⟩, ⟨25, 3, 1, 0, 0, fun x y => resetC 2 1 (updF (boxF [.int .i64 n, .int .i64 m, .gs 2 0]) 0 2 [.gs 2 1] x y)⟩, ⟨63, 4, i * m + m, 0, 0, fun x y => resetC 2 1 ((appF (i * m) (qblkU 0 (i * m) (flat m G)).f (fun a b => (nq (G i a)).getD b .any)) x y)⟩]) rfl ⟨rfl, rfl, rfl, rfl, rfl, trivial⟩ rfl ⟨fun _ i j _ hj => ?_, fun _ i j (hi : i < 1) hj => ?_, fun _ i j _ hj => ?_, trivial⟩ rfl).trans (Weak.alike (bl' := [⟨25, 3, 1, 0, 0, boxF [.int .i64 0, .int .i64 0, .nil]⟩, ⟨25, 3, 1, 0, 0, boxF [.int .i64 n, .int .i64 m, .gs 2 0]⟩, qblkU 0 ((i + 1) * m) (flat m G)]) ⟨⟨rfl, fun x y _ hy => ?_⟩, ⟨rfl, fun x y (hx : x < 1) hy => ?_⟩, ⟨flat_app.1, fun x y hx hy => ?_⟩, trivial⟩))), i + 1, rfl, by omega, rfl⟩
      · match j, hj with
        | 0, _ => rfl
        | 1, _ => rfl
        | 2, _ => rfl
      · obtain rfl : i = 0 := by omega
        match j, hj with
        | 0, _ => rfl
        | 1, _ => rfl
        | 2, _ => rfl
      · match j, hj with
        | 0, _ => rfl
        | 1, _ => rfl
        | 2, _ => rfl
      · obtain rfl : i = 0 := by omega
        match j, hj with
        | 0, _ => rfl
        | 1, _ => rfl
        | 2, _ => rfl
      · exact clos_lt (show (resetC 2 1 _).clos = true by rw [resetC_clos (hac i j hj)]; exact hac i j hj)
      · match y, hy with
        | 0, _ => rfl
        | 1, _ => rfl
        | 2, _ => rfl
      · obtain rfl : x = 0 := by omega
        match y, hy with
        | 0, _ => rfl
        | 1, _ => rfl
        | 2, _ => rfl
      · exact (resetC_clos (hac x y hy)).trans ((flat_app (u := 0)).2 x y hx hy)
    · have h := of_decide_eq_false h
      obtain rfl : i = n := by omega
      conv => whnf
      refine ⟨fun _ _ _ hb => rr_clos _ _ hb, ?_⟩
      conv => whnf
      exact ⟨rfl, Sub.refl _⟩
set_option maxHeartbeats 4000000 in
theorem fits_ok (n : Int) : FnOK Tryz.prog true 76 [.c (.int .i64 n)] (.c (.bool (decide (0 ≤ n ∧ n ≤ 1024)))) := by
  refine fn_ok (E := E1) E1_ok Tryz.func76 rfl mixed (by kernel_rfl) (by kernel_rfl) ?_
  conv => whnf
  refine bcase (fun (h : decide (0 ≤ n) = true) => ?_) fun (h : decide (0 ≤ n) = false) => ?_
  · have h := of_decide_eq_true h
    conv => whnf
    refine ⟨rfl, Sub.bool ?_⟩
    show decide (n ≤ 1024) = decide (0 ≤ n ∧ n ≤ 1024)
    simp [h]
  · have h := of_decide_eq_false h
    conv => whnf
    refine ⟨rfl, Sub.bool ?_⟩
    show false = decide (0 ≤ n ∧ n ≤ 1024)
    simp [h]
set_option maxHeartbeats 4000000 in
theorem valid_ok {r c : Int} {len : Nat} {f : Nat → Nat → Cell} : FnOK Tryz.prog true 73 [.g [.int .i64 r, .int .i64 c, .row 4 len f]] (.c (.bool (decide ((0 ≤ r ∧ r ≤ 1024) ∧ (0 ≤ c ∧ c ≤ 1024) ∧ (len : Int) = r * c)))) := by
  refine fn_ok (E := E1) E1_ok Tryz.func73 rfl mixed (by kernel_rfl) (by kernel_rfl) ?_
  conv => whnf
  refine ⟨_, fits_ok r, ?_⟩
  conv => whnf
  refine bcase (fun (h : decide (0 ≤ r ∧ r ≤ 1024) = true) => ?_) fun (h : decide (0 ≤ r ∧ r ≤ 1024) = false) => ?_
  · have h := of_decide_eq_true h
    conv => whnf
    refine ⟨_, fits_ok c, ?_⟩
    conv => whnf
    refine bcase (fun (h2 : decide (0 ≤ c ∧ c ≤ 1024) = true) => ?_) fun (h2 : decide (0 ≤ c ∧ c ≤ 1024) = false) => ?_
    · have h2 := of_decide_eq_true h2
      have hb : r * c ≤ 1024 * 1024 := Int.mul_le_mul h.2 h2.2 h2.1 (by omega)
      have h0 : 0 ≤ r * c := Int.mul_nonneg h.1 h2.1
      conv => whnf
      refine ⟨i64_range (by omega) (by omega), ?_⟩
      conv => whnf
      refine ⟨rfl, Sub.bool ?_⟩
      show decide ((len : Int) = r * c) = _
      simp [h, h2]
    · have h2 := of_decide_eq_false h2
      conv => whnf
      refine ⟨rfl, Sub.bool ?_⟩
      show false = _
      simp [h2]
  · have h := of_decide_eq_false h
    conv => whnf
    refine ⟨rfl, Sub.bool ?_⟩
    show false = _
    simp [h]
end Go.Proofs.YtigciplaoikcfaaGreat
/- Package charpoly: the first errors. -/
namespace Go.Proofs.YtigciplaoikcfaaGreat
open Go.RowKit
/-- The error that a matrix of so many rows, columns and elements gets first. -/
def firstErr (r c len : Int) : Int := if ((0 ≤ r ∧ r ≤ 1024) ∧ (0 ≤ c ∧ c ≤ 1024) ∧ len = r * c) ∧ r = c then (if r > 64 then 7 else 0) else 4
set_option maxHeartbeats 4000000 in
theorem check_ok {r c : Int} {len : Nat} {f : Nat → Nat → Cell} : FnOK Tryz.prog true 28 [.g [.int .i64 r, .int .i64 c, .row 4 len f]] (.c (.int .i64 (firstErr r c len))) := by
  refine fn_ok (E := E1) E1_ok Tryz.func28 rfl mixed (by kernel_rfl) (by kernel_rfl) ?_
  conv => whnf
  refine ⟨_, valid_ok (r := r) (c := c) (len := len) (f := f), ?_⟩
  conv => whnf
  refine bcase (fun h => ?_) fun h => ?_
  · have h : (!decide ((0 ≤ r ∧ r ≤ 1024) ∧ (0 ≤ c ∧ c ≤ 1024) ∧ (len : Int) = r * c)) = false := gwf h
    have hv : (0 ≤ r ∧ r ≤ 1024) ∧ (0 ≤ c ∧ c ≤ 1024) ∧ (len : Int) = r * c := by simpa using h
    conv => whnf
    refine bcase (fun (h2 : (!decide (r = c)) = true) => ?_) fun (h2 : (!decide (r = c)) = false) => ?_
    · have h2 : r ≠ c := by simpa using h2
      conv => whnf
      refine ⟨rfl, Sub.int ?_⟩
      unfold firstErr; rw [if_neg (fun h => h2 h.2)]
    · have h2 : r = c := by simpa using h2
      conv => whnf
      refine bcase (fun (h3 : decide (r > 64) = true) => ?_) fun (h3 : decide (r > 64) = false) => ?_
      · have h3 := of_decide_eq_true h3
        conv => whnf
        refine ⟨rfl, Sub.int ?_⟩
        unfold firstErr; rw [if_pos ⟨hv, h2⟩, if_pos h3]
      · have h3 := of_decide_eq_false h3
        conv => whnf
        refine ⟨rfl, Sub.int ?_⟩
        unfold firstErr; rw [if_pos ⟨hv, h2⟩, if_neg h3]
  · have h : (!decide ((0 ≤ r ∧ r ≤ 1024) ∧ (0 ≤ c ∧ c ≤ 1024) ∧ (len : Int) = r * c)) = true := gwf' h
    have hv : ¬ ((0 ≤ r ∧ r ≤ 1024) ∧ (0 ≤ c ∧ c ≤ 1024) ∧ (len : Int) = r * c) := by
      intro hh; rw [decide_eq_true hh] at h; cases h
    conv => whnf
    refine ⟨rfl, Sub.int ?_⟩
    unfold firstErr; rw [if_neg (fun h => hv h.1)]
end Go.Proofs.YtigciplaoikcfaaGreat
/- Rows of rows: blank. -/
namespace Go.Proofs.YtigciplaoikcfaaGreat
open Go.RowKit
/-- A grid of which the first i rows are there. -/
def gridF (i : Nat) (R : Nat → Cell) (x _y : Nat) : Cell := if x < i then R x else .nil
def gblk (n i : Nat) (R : Nat → Cell) : Blk := ⟨22, 1, n, 0, 0, gridF i R⟩
theorem gridF_clos {i : Nat} {R : Nat → Cell} (hR : ∀ x, (R x).clos = true) (x y : Nat) : (gridF i R x y).clos = true := by
  unfold gridF; split
  · exact hR x
  · rfl
theorem gblk_clos (n m i x y : Nat) : ((gblk n i fun _ => qrow m fun _ => 0).f x y).clos = true := gridF_clos (i := i) (R := fun _ => qrow m fun _ => 0) (fun _ => rfl) x y
theorem qrow_clos (n : Nat) (A : Nat → Rat) : (qrow n A).clos = true := rfl
set_option maxHeartbeats 4000000 in
theorem blank_ok {n m : Nat} (hn : n ≤ 1048576) (hm : m ≤ 1048576) : FnOK Tryz.prog true 78 [.c (.int .i64 n), .c (.int .i64 m)] (.c (.row 1 n fun _ _ => qrow m fun _ => 0)) := by
  refine fn_ok (E := E1) E1_ok Tryz.func78 rfl mixed (by kernel_rfl) (by kernel_rfl) ?_
  conv => whnf
  refine ⟨by omega, by omega, by omega, by show ((24 : Nat) : Int) * (n : Int) ≤ _; omega, ?_⟩
  conv => whnf
  refine loop_inv (fun k σ => ∃ i : Nat, k = n - i ∧ i ≤ n ∧ σ = ⟨asg [(1, .c (.int .i64 m)), (5, .c (.gs 0 0)), (10, .c (.int .i64 n)), (11, .c (.int .i64 i))], [gblk n i fun _ => qrow m fun _ => 0]⟩) n ?_ ?_
  · refine ⟨_, (Weak.cut (tl := [(1, .c (.int .i64 m)), (5, .c (.gs 0 0)), (10, .c (.int .i64 n)), (11, .c (.int .i64 0))]) (bl' := [⟨22, 1, n, 0, 0, zeroF [.nil]⟩]) rfl ⟨rfl, rfl, rfl, rfl, trivial⟩ rfl ⟨fun _ i j _ hj => ?_, trivial⟩ rfl).trans (Weak.alike (bl' := [gblk n 0 fun _ => qrow m fun _ => 0]) ⟨⟨rfl, fun i j _ hj => ?_⟩, trivial⟩), 0, rfl, by omega, rfl⟩
    · match j, hj with
      | 0, _ => rfl
    · match j, hj with
      | 0, _ => rfl
  · rintro k σ' ⟨i, hk, hi, rfl⟩
    conv => whnf
    refine bcase (fun (h : decide ((i : Int) < n) = true) => ?_) fun (h : decide ((i : Int) < n) = false) => ?_
    · have h := of_decide_eq_true h
      conv => whnf
      refine .inl ⟨[], true, ?_⟩
      conv => whnf
      refine ⟨1, phB, [.c (.int .i64 m)], _, _, _, zeros_m hm, rfl, .inr (Nat.le_refl 2), fun h => absurd h (by decide), fun h => absurd h (by decide), fun F hF => ?_, rfl, rfl, ?_⟩
      · simp at hF; subst hF; exact qblk_plain _ _
      conv => whnf
      refine ⟨by omega, by show ((i : Nat) : Int) < (n : Int); omega, ?_⟩
      conv => whnf
      refine ⟨i64_range (by omega) (by omega), ?_⟩
      conv => whnf
      have hup : ∀ x y, (updF (gblk n i fun _ => qrow m fun _ => 0).f i 0 [.gs 2 0] x y).lt 3 = true := fun x y => by
        unfold updF
        split
        · rename_i h'
          obtain rfl : y = 0 := by have := h'.2.2; simp at this; omega
          rfl
        · exact clos_lt (gblk_clos _ _ _ x y)
      refine ⟨n - (i + 1), by omega, _, (Weak.cut (tl := [(1, .c (.int .i64 m)), (5, .c (.gs 0 0)), (10, .c (.int .i64 n)), (11, .c (.int .i64 ((i + 1 : Nat) : Int)))]) (bl' := [⟨22, 1, n, 0, 0, updF (gblk n i fun _ => qrow m fun _ => 0).f i 0 [.gs 2 0]⟩, phB, qblk m fun _ => 0]) rfl ⟨rfl, rfl, rfl, rfl, trivial⟩ rfl ⟨fun _ x y _ _ => hup x y, fun h => absurd h (by decide), fun _ i j _ hj => qblk_lt _ _ _ i j hj, trivial⟩ rfl).trans ((Weak.freeze 2 (B := qblk m fun _ => 0) rfl rfl fun x y _ hy => rr_clos _ _ hy).trans ((Weak.close (tm := asg [(1, .c (.int .i64 m)), (5, .c (.gs 0 0)), (10, .c (.int .i64 n)), (11, .c (.int .i64 ((i + 1 : Nat) : Int)))]) (bl := [⟨22, 1, n, 0, 0, updF (gblk n i fun _ => qrow m fun _ => 0).f i 0 [.gs 2 0]⟩, phB, { (qblk m fun _ => 0) with st := 1 }]) (tm' := asg [(1, .c (.int .i64 m)), (5, .c (.gs 0 0)), (10, .c (.int .i64 n)), (11, .c (.int .i64 ((i + 1 : Nat) : Int)))]) (bl' := [gblk n (i + 1) fun _ => qrow m fun _ => 0, phB, { (qblk m fun _ => 0) with st := 1 }]) ⟨⟨rfl, fun h => absurd rfl h, fun x y hx hy => ?_⟩, Blk.closed.refl _ _, Blk.closed.refl _ _, trivial⟩ fun t => .inl rfl).trans (Weak.cut (tl := [(1, .c (.int .i64 m)), (5, .c (.gs 0 0)), (10, .c (.int .i64 n)), (11, .c (.int .i64 ((i + 1 : Nat) : Int)))]) (bl' := [gblk n (i + 1) fun _ => qrow m fun _ => 0]) rfl ⟨rfl, rfl, rfl, rfl, trivial⟩ rfl ⟨fun _ x y _ _ => clos_lt (gblk_clos _ _ _ x y), trivial⟩ rfl))), i + 1, rfl, by omega, rfl⟩
      have hy : y < 1 := hy
      obtain rfl : y = 0 := by omega
      by_cases e : x = i
      · subst e
        right
        show gridF (x + 1) (fun _ => qrow m fun _ => 0) x 0 = St.closeC [⟨22, 1, n, 0, 0, updF (gblk n x fun _ => qrow m fun _ => 0).f x 0 [.gs 2 0]⟩, phB, { (qblk m fun _ => 0) with st := 1 }] (updF (gblk n x fun _ => qrow m fun _ => 0).f x 0 [.gs 2 0] x 0)
        have e1 : updF (gblk n x fun _ => qrow m fun _ => 0).f x 0 [.gs 2 0] x 0 = .gs 2 0 := by unfold updF; rw [if_pos ⟨rfl, Nat.le_refl _, by simp⟩]; rfl
        rw [e1]
        unfold gridF
        rw [if_pos (by omega)]
        rfl
      · left
        show gridF (i + 1) (fun _ => qrow m fun _ => 0) x 0 = updF (gblk n i fun _ => qrow m fun _ => 0).f i 0 [.gs 2 0] x 0
        unfold updF
        rw [if_neg (fun h => e h.1)]
        show gridF (i + 1) (fun _ => qrow m fun _ => 0) x 0 = gridF i (fun _ => qrow m fun _ => 0) x 0
        unfold gridF
        by_cases e2 : x < i
        · rw [if_pos e2, if_pos (by omega)]
        · rw [if_neg e2, if_neg (by omega)]
    · have h := of_decide_eq_false h
      obtain rfl : i = n := by omega
      conv => whnf
      refine ⟨fun x y _ _ => gblk_clos _ _ _ x y, ?_⟩
      conv => whnf
      refine ⟨rfl, Sub.row rfl fun x y hx _ => ?_⟩
      show gridF i (fun _ => qrow m fun _ => 0) x y = qrow m fun _ => 0
      have hx : x < i := hx
      unfold gridF; rw [if_pos hx]
end Go.Proofs.YtigciplaoikcfaaGreat
/- Package matrix: New. -/
namespace Go.Proofs.YtigciplaoikcfaaGreat
open Go.RowKit
set_option maxHeartbeats 4000000 in
theorem new_ok {n m : Nat} (hn : n ≤ 1024) (hm : m ≤ 1024) : FnOK Tryz.prog true 30 [.c (.int .i64 n), .c (.int .i64 m)] (.t2 (qmat n m fun _ _ => 0) (.c (.int .i64 0))) := by
  refine fn_ok (E := E1) E1_ok Tryz.func30 rfl mixed (by kernel_rfl) (by kernel_rfl) ?_
  conv => whnf
  refine ⟨_, fits_ok n, ?_⟩
  conv => whnf
  refine bcase (fun h => ?_) fun h => ?_
  · conv => whnf
    refine ⟨_, fits_ok m, ?_⟩
    conv => whnf
    refine bcase (fun (h : (!decide ((0 : Int) ≤ m ∧ (m : Int) ≤ 1024)) = true) => ?_) fun h => ?_
    · exact absurd h (by rw [decide_eq_true (⟨by omega, by omega⟩ : (0 : Int) ≤ m ∧ (m : Int) ≤ 1024)]; simp)
    conv => whnf
    refine ⟨_, blank_ok (n := n) (m := m) (by omega) (by omega), ?_⟩
    conv => whnf
    refine ⟨_, store_ok (n := n) (m := m) (G := fun _ _ => 0) hn hm, ?_⟩
    conv => whnf
    exact ⟨rfl, Sub.refl _⟩
  · have h : (!decide ((0 : Int) ≤ n ∧ (n : Int) ≤ 1024)) = true := gwf' h
    exact absurd h (by rw [decide_eq_true (⟨by omega, by omega⟩ : (0 : Int) ≤ n ∧ (n : Int) ≤ 1024)]; simp)
end Go.Proofs.YtigciplaoikcfaaGreat
