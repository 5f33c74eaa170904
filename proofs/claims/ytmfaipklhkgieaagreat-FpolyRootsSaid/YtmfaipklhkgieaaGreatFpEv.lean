/- eval: a range over slices.Backward. -/
import Derived.RangeFuncBox
import Derived.RangeFuncLeaves
import Derived.Shelf.Abstract
import Derived.OwnWalkIn
import Derived.TacticsInMore
import Derived.LoopNIn
import Derived.LoopIn
import Derived.Test.YtmfaipklhkgieaaGreatFpP
namespace Go.Proofs.YtmfaipklhkgieaaGreat
open Go.RowKit Go.Shelf
attribute [local go_sem] Oper.semAt_some
namespace Fp
theorem wrapI64 {x : Int} (h1 : -9223372036854775808 ≤ x) (h2 : x ≤ 9223372036854775807) : IntKind.i64.wrap x = x := IntKind.wrap_i64_in h1 h2
/-- What comes of a list from its end, with its places. -/
abbrev El (p : Int) := { z : Int × Int // 0 ≤ z.2 ∧ z.2 < p }
def el {p : Int} {F : Nat → Int} (hF : ∀ i, 0 ≤ F i ∧ F i < p) (n k : Nat) : El p := ⟨((n - 1 - k : Nat), F (n - 1 - k)), hF _⟩
def upto {α : Type} (f : Nat → α) (k : Nat) : List α := (List.range k).map f
theorem upto_succ {α : Type} (f : Nat → α) (k : Nat) : upto f (k + 1) = upto f k ++ [f k] := by simp [upto, List.range_succ]
theorem upto_length {α : Type} (f : Nat → α) (k : Nat) : (upto f k).length = k := by simp [upto]
/-- What a round keeps: what lay below n₀, and the iterator's own box. -/
def Kb (n₀ Bs : Nat) (W W' : World) : Prop := Below n₀ W W' ∧ W'.heap[Bs]? = W.heap[Bs]?
theorem Kb.refl (n₀ Bs : Nat) (W : World) : Kb n₀ Bs W W := ⟨Below.refl _ _, rfl⟩
theorem Kb.trans {n₀ Bs : Nat} {A B C : World} (h : Kb n₀ Bs A B) (k : Kb n₀ Bs B C) : Kb n₀ Bs A C := ⟨h.1.trans k.1, k.2.trans h.2⟩
theorem Kb.box {n₀ Bs o : Nat} {A B : World} (h : Kb n₀ Bs A B) : B.cell? ⟨Bs, o, none⟩ = A.cell? ⟨Bs, o, none⟩ := by simp [World.cell?, h.2]
set_option maxRecDepth 100000 in
set_option maxHeartbeats 2000000 in
theorem back1_in (G : Fence) (n : Nat) (h8 : G.fn 69) (hro : G.round = none) (hn : 1 ≤ n) (l Bs n₀ b off len cap : Nat) {p : Int} {F : Nat → Int} (hF : ∀ i, 0 ≤ F i ∧ F i < p) (hreach : len ≤ 4096) (hb : b < n₀) (J Jx : List (El p) → World → Prop)
    (hY : ∀ pre x W, J pre W → pre.length < len → YieldAt G (n - 1) Tryz.prog l #[.int .i64 x.1.1, .int .i64 x.1.2] W fun e W' =>
      (e = .returned (.bool true) ∧ J (pre ++ [x]) W' ∧ Kb n₀ Bs W W') ∨ (e = .returned (.bool false) ∧ Jx (pre ++ [x]) W'))
    (W : World) (hBs : W.cell? ⟨Bs, 0, none⟩ = some (.slice (some ⟨b, off, none⟩) len cap)) (hc : ∀ j, j < len → W.cell? ⟨b, off + j, none⟩ = some (.int .i64 (F j))) (h0 : J [] W) :
    CallsIn G n Tryz.prog 69 #[.func (.yield l) #[] #[], .pointer (some ⟨Bs, 0, none⟩)] W fun e W' => (∃ v, e = .returned v) ∧
      ((∃ ys, ys = upto (el hF len) len ∧ J ys W') ∨ (∃ pre, (∃ k, k ≤ len ∧ pre = upto (el hF len) k) ∧ Jx pre W')) := by
  refine callsIn_of_wp Tryz.func69 rfl h8 ?_ hro
  simp only [Tryz.ntmps69, List.size_toArray, List.length_cons, List.length_nil, Nat.reduceAdd, Nat.reduceSub, Array.replicate_succ, Array.replicate_zero, List.push_toArray, List.append_toArray, List.nil_append, List.cons_append]
  have hw0 : IntKind.i64.wrap ((len : Int) - 1) = (len : Int) - 1 := wrapI64 (by omega) (by omega)
  gi_wp2
  gi_loopw [3] (fun i wr => ∃ k : Nat, k ≤ len ∧ i = .int .i64 ((k : Int) - 1) ∧ J (upto (el hF len) (len - k)) wr ∧ Kb n₀ Bs W wr)
    (fun i _ => (intOf i + 1).toNat)
  case atStart => exact ⟨len, Nat.le_refl _, rfl, by rw [Nat.sub_self]; exact h0, Kb.refl _ _ _⟩
  case round =>
    obtain ⟨k, hk, rfl, hJs, hnx⟩ := hrel
    have hBx := hnx.box.trans hBs
    cases k with
    | zero =>
      gi_wp2
      go_end0
      exact ⟨⟨_, rfl⟩, .inl ⟨_, rfl, hJs⟩⟩
    | succ j =>
      have hcx : wr.cell? ⟨b, off + j, none⟩ = some (.int .i64 (F j)) := (hnx.1.cell (p := ⟨b, off + j, none⟩) hb).trans (hc j (by omega))
      obtain ⟨fn, tmps, assign, body, hy, hR⟩ := hY _ (el hF len (len - (j + 1))) wr hJs (by rw [upto_length]; omega)
      have ee : len - 1 - (len - (j + 1)) = j := by omega
      simp only [el, ee] at hy
      have ej : ((j + 1 : Nat) : Int) - 1 = j := by omega
      rw [ej]
      have hw1 : IntKind.i64.wrap ((j : Int) - 1) = (j : Int) - 1 := wrapI64 (by omega) (by omega)
      gi_wp2
      refine hR.mono ?_
      rintro e W3 (⟨rfl, hJ3, hk3⟩ | ⟨rfl, hJx3⟩)
      · gi_wp2
        go_roundw
        case rel => exact ⟨j, by omega, by simp, by rw [show len - j = len - (j + 1) + 1 by omega, upto_succ]; exact hJ3, hnx.trans hk3⟩
        case measure => simp [intOf]
      · gi_wp2
        refine bodyPost_ret (results_none rfl _ _ _) rfl ?_
        exact ⟨⟨_, rfl⟩, .inr ⟨_, ⟨len - (j + 1) + 1, by omega, (upto_succ _ _).symm⟩, hJx3⟩⟩
set_option maxRecDepth 100000 in
set_option maxHeartbeats 1000000 in
theorem back1_nil (G : Fence) (n : Nat) (h8 : G.fn 69) (hro : G.round = none) (l Bs cap : Nat) (A : Option Addr) {α : Type} (J : List α → World → Prop) (W : World) (hBs : W.cell? ⟨Bs, 0, none⟩ = some (.slice A 0 cap)) (h0 : J [] W) :
    CallsIn G n Tryz.prog 69 #[.func (.yield l) #[] #[], .pointer (some ⟨Bs, 0, none⟩)] W fun e W' => (∃ v, e = .returned v) ∧ J [] W' := by
  refine callsIn_of_wp Tryz.func69 rfl h8 ?_ hro
  simp only [Tryz.ntmps69, List.size_toArray, List.length_cons, List.length_nil, Nat.reduceAdd, Nat.reduceSub, Array.replicate_succ, Array.replicate_zero, List.push_toArray, List.append_toArray, List.nil_append, List.cons_append]
  gi_wp2
  gi_loopw [3] (fun i wr => i = .int .i64 (-1) ∧ J [] wr) (fun _ _ => 0)
  case atStart => exact ⟨rfl, h0⟩
  case round =>
    obtain ⟨rfl, hJs⟩ := hrel
    gi_wp2
    go_end0
    exact ⟨⟨_, rfl⟩, hJs⟩
set_option maxHeartbeats 1000000 in
theorem back_in (G : Fence) (n : Nat) (h5 : G.fn 54) (hro : G.round = none) (a : Option Addr) (len cap : Nat) (w : World) :
    CallsIn G n Tryz.prog 54 #[.slice a len cap] w fun e w' => e = .returned (.func (.func 69) #[] #[.pointer (some ⟨w.heap.size, 0, none⟩)]) ∧ w' = w.alloc (.cells #[.slice a len cap] 23) := by
  refine callsIn_of_wp Tryz.func54 rfl h5 ?_ hro
  simp only [Tryz.ntmps54, List.size_toArray, List.length_cons, List.length_nil, Nat.reduceAdd, Nat.reduceSub, Array.replicate_succ, Array.replicate_zero, List.push_toArray, List.append_toArray, List.nil_append, List.cons_append]
  gi_wp2
  go_ret
  exact ⟨rfl, rfl⟩
/-- The list in memory, below n₀; or it is empty. -/
def Ls (F : Nat → Int) (len n₀ : Nat) (W : World) (A : Option Addr) : Prop := len = 0 ∨ ∃ b off, A = some ⟨b, off, none⟩ ∧ b < n₀ ∧ ∀ j, j < len → W.cell? ⟨b, off + j, none⟩ = some (.int .i64 (F j))
theorem Ls.below {F : Nat → Int} {len n₀ : Nat} {A : Option Addr} {W W' : World} (h : Below n₀ W W') : Ls F len n₀ W A → Ls F len n₀ W' A
  | .inl e => .inl e
  | .inr ⟨b, off, e, hb, hc⟩ => .inr ⟨b, off, e, hb, fun j hj => (h.cell (p := ⟨b, off + j, none⟩) hb).trans (hc j hj)⟩
theorem back_stops (G : Fence) (n : Nat) (h7 : G.fn 69) (hro : G.round = none) (hn : 1 ≤ n) (Bs n₀ len cap : Nat) (A : Option Addr) {p : Int} {F : Nat → Int} (hF : ∀ i, 0 ≤ F i ∧ F i < p) (hreach : len ≤ 4096) (w : World) (hBs : Bs < w.heap.size) (hn₀ : n₀ ≤ w.heap.size)
    (hc : w.cell? ⟨Bs, 0, none⟩ = some (.slice A len cap)) (hI : Ls F len n₀ w A) :
    SeqStopsK G n Tryz.prog 69 #[.pointer (some ⟨Bs, 0, none⟩)] (fun x : El p => #[Value.int .i64 x.1.1, Value.int .i64 x.1.2]) (Kb n₀ Bs) (fun ys => ys = upto (el hF len) len)
      (fun pre => ∃ k, k ≤ len ∧ pre = upto (el hF len) k) len w := fun l J Jx W hW _ _ hY h0 => by
  have hc' := (hW.cell (p := ⟨Bs, 0, none⟩) hBs).trans hc
  rcases hI.below (hW.mono hn₀) with rfl | ⟨b, off, rfl, hb, hcs⟩
  · exact (back1_nil G n h7 hro l Bs cap A J W hc' h0).mono fun e W' ⟨he, hj⟩ => ⟨he, .inl ⟨_, rfl, hj⟩⟩
  · exact back1_in G n h7 hro hn l Bs n₀ b off len cap hF hreach hb J Jx hY W hc' hcs h0
/-- What the rounds add up to. -/
def ev {p : Int} (y : Int) (l : List (El p)) : Int := l.foldl (fun s c => (s * y + c.1.2) % p) 0
theorem ev_snoc {p y : Int} (l : List (El p)) (c : El p) : ev y (l ++ [c]) = (ev y l * y + c.1.2) % p := by simp [ev]
theorem ev_range {p y : Int} (hp : 0 < p) (l : List (El p)) : 0 ≤ ev y l ∧ ev y l < p := by
  rcases l.eq_nil_or_concat with rfl | ⟨l', c, rfl⟩
  · exact ⟨Int.le_refl _, hp⟩
  · rw [List.concat_eq_append, ev_snoc]
    exact ⟨Int.emod_nonneg _ (by omega), Int.emod_lt_of_pos _ hp⟩
theorem ev_hv {p y : Int} {F : Nat → Int} (hF : ∀ i, 0 ≤ F i ∧ F i < p) {n : Nat} : ∀ k, ev y (upto (el hF n) k) = hv p y F n k
  | 0 => rfl
  | k + 1 => by
    rw [upto_succ, ev_snoc, ev_hv hF k]
    rfl
theorem Kb_b {n₀ Bs : Nat} {w : World} (hn : n₀ ≤ w.heap.size) (hB : Bs < w.heap.size) (W : World) (l : Nat) (o o' : Obj) (hl : w.heap.size ≤ l) (h : W.heap[l]? = some o) (h2 : o.isCells = false) (h3 : o.isWalk = false) : Kb n₀ Bs W (W.putObj l o') :=
  ⟨belowK_b hn W l o o' hl h h2 h3, by simp [World.putObj, show l ≠ Bs by omega]⟩
theorem Kb_set {n₀ Bs b : Nat} {v : Value} {W : World} (h : n₀ ≤ b) (h2 : b ≠ Bs) : Kb n₀ Bs W (W.setCell ⟨b, 0, none⟩ v) :=
  ⟨(Below.refl n₀ W).setCell (p := ⟨b, 0, none⟩) h _, heap_setCell_other W ⟨b, 0, none⟩ Bs v (by show Bs ≠ b; omega)⟩
set_option maxRecDepth 100000 in
set_option maxHeartbeats 4000000 in
theorem eval_in (G : Fence) (n : Nat) (h3 : G.fn 35) (h5 : G.fn 54) (h7 : G.fn 69) (hro : G.round = none) (hn : 3 ≤ n) (A : Option Addr) (len cap : Nat) {p y : Int} {F : Nat → Int} (hp : 2 ≤ p) (hp2 : p ≤ 65521) (hy : 0 ≤ y ∧ y < p) (hF : ∀ i, 0 ≤ F i ∧ F i < p) (hreach : len ≤ 4096) (w : World) (hI : Ls F len w.heap.size w A) :
    CallsIn G n Tryz.prog 35 #[.int .i64 p, .slice A len cap, .int .i64 y] w fun e W' => e = .returned (.int .i64 (hv p y F len len)) ∧ Below w.heap.size w W' := by
  have h1 : 1 ≤ n := by omega
  refine callsIn_of_wp_marks Tryz.func35 rfl h3 ?_ hro
  simp only [Tryz.ntmps35, List.size_toArray, List.length_cons, List.length_nil, Nat.reduceAdd, Nat.reduceSub, Array.replicate_succ, Array.replicate_zero, List.push_toArray, List.append_toArray, List.nil_append, List.cons_append]
  gi_wp2_with (gi_at_call 54; refine (back_in G (n - 1) h5 hro _ _ _ _).mono ?_; rintro e w' ⟨rfl, rfl⟩)
  have b0 := Boxed.new w 3 (.int .i64 p)
  have b1 := Boxed.new (w.alloc (.cells #[.int .i64 p] 3)) 3 (.int .i64 y)
  have b2 := Boxed.new ((w.alloc (.cells #[.int .i64 p] 3)).alloc (.cells #[.int .i64 y] 3)) 3 (.int .i64 0)
  have b3 := Boxed.new (((w.alloc (.cells #[.int .i64 p] 3)).alloc (.cells #[.int .i64 y] 3)).alloc (.cells #[.int .i64 0] 3)) 23 (.slice A len cap)
  rw [World.size_alloc] at b1
  rw [World.size_alloc, World.size_alloc] at b2
  rw [World.size_alloc, World.size_alloc, World.size_alloc] at b3
  have b0 := ((b0.alloc (.cells #[.int .i64 y] 3)).alloc (.cells #[.int .i64 0] 3)).alloc (.cells #[.slice A len cap] 23)
  have b1 := (b1.alloc (.cells #[.int .i64 0] 3)).alloc (.cells #[.slice A len cap] 23)
  have b2 := b2.alloc (.cells #[.slice A len cap] 23)
  have hB0 : Below w.heap.size w ((((w.alloc (.cells #[.int .i64 p] 3)).alloc (.cells #[.int .i64 y] 3)).alloc (.cells #[.int .i64 0] 3)).alloc (.cells #[.slice A len cap] 23)) := ((((Below.refl _ w).alloc (Nat.le_refl _) _).alloc (by simp) _).alloc (by simp; omega) _).alloc (by simp; omega) _
  have hsz : ((((w.alloc (.cells #[.int .i64 p] 3)).alloc (.cells #[.int .i64 y] 3)).alloc (.cells #[.int .i64 0] 3)).alloc (.cells #[.slice A len cap] 23)).heap.size = w.heap.size + 4 := by simp
  generalize (((w.alloc (.cells #[.int .i64 p] 3)).alloc (.cells #[.int .i64 y] 3)).alloc (.cells #[.int .i64 0] 3)).alloc (.cells #[.slice A len cap] 23) = W0 at *
  refine wpIn_rangeFunc_ownG hro h1 (gf := 69) (lb := #[.pointer (some ⟨w.heap.size + 1 + 1 + 1, 0, none⟩)]) rfl h7 (enters_of Tryz.func69 (by kernel_rfl) rfl)
    (back_stops G (n - 1) h7 hro (by omega) (w.heap.size + 1 + 1 + 1) w.heap.size len cap A hF hreach W0 (by omega) (by omega) b3.cell (hI.below hB0)) Kb.trans (Kb_b (by omega) (by omega)) (Below.refl _ _) (fun _ => rfl)
    (fun pre W => (W.cell? ⟨w.heap.size, 0, none⟩ = some (.int .i64 p) ∧ W.cell? ⟨w.heap.size + 1, 0, none⟩ = some (.int .i64 y) ∧ W.cell? ⟨w.heap.size + 1 + 1, 0, none⟩ = some (.int .i64 (ev y pre)) ∧ W.frozen? ⟨w.heap.size + 1 + 1, 0, none⟩ = false) ∧ Below w.heap.size w W)
    (fun _ _ _ => False)
    (OwnFrom.and (Own.from (fun s A B row hs hg hr => ⟨cell_kept hs.1 hg hr, cell_kept hs.2.1 hg hr, cell_kept hs.2.2.1 hg hr, (frozen_kept hs.2.2.1 hg hr).trans hs.2.2.2⟩) _) (ownFrom_below (Nat.le_refl _) (by omega)))
    (fun _ _ _ _ _ hs _ _ => hs)
    ⟨⟨b0.cell, b1.cell, b2.cell, b2.frozen⟩, hB0⟩
    (fun x => { tmps := #[.int .i64 p, .slice A len cap, .int .i64 y, .pointer (some ⟨w.heap.size, 0, none⟩), undef, .pointer (some ⟨w.heap.size + 1, 0, none⟩), .int .i64 0, .pointer (some ⟨w.heap.size + 1 + 1, 0, none⟩), undef, .int .i64 x.1.2, .slice A len cap, .func (.func 69) #[] #[.pointer (some ⟨w.heap.size + 1 + 1 + 1, 0, none⟩)], .int .i64 x.1.1, .int .i64 x.1.2, undef, undef, undef, undef, undef, undef, undef, undef], defers := [] }) ?assign ?body ?done ?stop
  case assign =>
    intro l x W K hK
    gi_wp2
    exact hK
  case body =>
    rintro l pre x W ⟨⟨hc0, hc1, hc2, hf⟩, hB⟩ _
    have hx := x.2
    have hs := ev_range (y := y) (show 0 < p by omega) pre
    have hsn := ev_snoc (y := y) pre x
    generalize ev y pre = s at *
    obtain ⟨s', es⟩ : ∃ s', ev y (pre ++ [x]) = s' := ⟨_, rfl⟩
    rw [es] at hsn
    generalize x.1.2 = c at *
    generalize x.1.1 = i at *
    have hm := mul_bounds hp2 hs hy
    obtain ⟨P, hP⟩ : ∃ P, s * y = P := ⟨_, rfl⟩
    rw [hP] at hm hsn
    have hw1 : IntKind.i64.wrap (s * y) = P := by rw [hP]; exact wrapI64 (by omega) (by omega)
    obtain ⟨Q, hQ⟩ : ∃ Q, P + c = Q := ⟨_, rfl⟩
    rw [hQ] at hsn
    have hw2 : IntKind.i64.wrap (P + c) = Q := by rw [hQ]; exact wrapI64 (by omega) (by omega)
    have hr : Int.tmod Q p = s' := by rw [hsn]; exact rem_eq (by omega)
    have hp0 : p ≠ 0 := by omega
    have hs' : 0 ≤ s' ∧ s' < p := by rw [hsn]; exact ⟨Int.emod_nonneg _ (by omega), Int.emod_lt_of_pos _ (by omega)⟩
    have hw3 : IntKind.i64.wrap s' = s' := wrapI64 (by omega) (by omega)
    gi_wp2
    rw [← hsn]
    exact ⟨(KeepsOthers.setCell _ _ _).from _, Kb_set (by omega) (by omega), ⟨(World.cell?_setCell_other _ _ _ _ (by simp)).trans hc0, (World.cell?_setCell_other _ _ _ _ (by simp)).trans hc1, by rw [es]; exact World.cell?_setCell_same' _ _ _ (by rw [hc2]; rfl), by rw [World.frozen?_setCell]; exact hf⟩, hB.setCell (p := ⟨w.heap.size + 1 + 1, 0, none⟩) (by simp; omega) _⟩
  case done =>
    rintro D ys W hD rfl ⟨⟨hc0, hc1, hc, _⟩, hB⟩ hK
    rw [ev_hv hF len] at hc
    gi_wp2
    refine ⟨by simp, .inl ⟨_, _, rfl, run_takeDeferred hK, ?_⟩⟩
    exact ⟨_, results_tmp rfl _ _ _, rfl, hB.trans (belowK_b (w := w) (Nat.le_refl _) W D _ _ (by omega) hK rfl rfl)⟩
  case stop =>
    rintro D c pre W _ _ h _
    exact h.elim
theorem eval_ok {p y : Int} {n : Nat} {F : Nat → Int} (hp : 2 ≤ p) (hp2 : p ≤ 65521) (hy : 0 ≤ y ∧ y < p) (hF : ∀ i, 0 ≤ F i ∧ F i < p) (hn : n ≤ 4096) : FnOK Tryz.prog false 35 [.c (.int .i64 p), .c (il n F), .c (.int .i64 y)] (.c (.int .i64 (hv p y F n n))) := by
  refine ⟨by kernel_rfl, fun D w vs _ _ hargs => ?_⟩
  match vs, hargs with
  | [v0, v1, v2], ⟨h0, h1, h2, _⟩ =>
    obtain rfl : v0 = .int .i64 p := h0
    obtain rfl : v2 = .int .i64 y := h2
    obtain ⟨A, c, rfl, _, h3⟩ := h1
    have hL : Ls F n w.heap.size w A := by
      rcases Nat.eq_zero_or_pos n with e | e
      · exact .inl e
      · obtain ⟨b, o, rfl, hb, _, hc⟩ := h3 e
        refine .inr ⟨b, o, rfl, hb, fun j hj => ?_⟩
        obtain ⟨u, hu, hr⟩ := hc j 0 hj (by decide)
        obtain rfl : u = .int .i64 (F j) := hr
        rw [show o + j = o + (j * 1 + 0) by omega]
        exact hu
    refine (callsIn_wide (n := 3)).1 ((eval_in Fence.wide 3 trivial trivial trivial rfl (Nat.le_refl _) A n c hp hp2 hy hF hn w hL).mono ?_)
    rintro e w' ⟨rfl, hb⟩
    exact ⟨_, rfl, rfl, hb⟩
end Fp
end Go.Proofs.YtmfaipklhkgieaaGreat
