/- The document's cyclotomic polynomials: powers less one, products, the recursion; the law over what its calls hand back. -/
import Derived.Test.YtigciplaoikcfaaGreatZqB
import Derived.Test.YtigciplaoikcfaaGreatCut
namespace Go.Proofs.YtigciplaoikcfaaGreat
open Go.RowKit
namespace Z
/-- The polynomial 1; x^n - 1. -/
def one (i : Nat) : Int := if i = 0 then 1 else 0
def xn1 (n i : Nat) : Int := mo 1 n i - one i
theorem one_fin : Fin 1 one := fun i hi => if_neg (by omega)
theorem xn1_fin {n : Nat} (h : 1 ≤ n) : Fin (n + 1) (xn1 n) := fun i hi => by
  show mo 1 n i - one i = 0
  rw [mo_fin 1 n i hi, one_fin i (by omega)]; rfl
theorem xn1_top {n : Nat} (h : 1 ≤ n) : xn1 n n = 1 := by
  show mo 1 n n - one n = 1
  rw [show mo 1 n n = 1 from if_pos rfl, one_fin n h]; rfl
theorem xn1_len (n i : Nat) : zlen (xn1 n i) ≤ 1 := by
  show zlen (mo 1 n i - one i) ≤ 1
  unfold mo one
  split
  · split
    · decide
    · decide
  · split
    · decide
    · decide
end Z
namespace Rf
abbrev ints (n : Nat) (d : Nat → Nat) : Cell := .row 1 n fun i _ => .int .i64 (d i)
theorem of5_one : FnOK Tryz.prog false 59 [.c (.row 1 1 (rowF 1 [.int .i64 1]))] (.c (nl 1 Z.one)) := run_same (inl := fun _ => false) (by kernel_rfl)
set_option maxHeartbeats 4000000 in
theorem power15_ok {n : Nat} (h1 : 1 ≤ n) (hn : n ≤ 1000) : FnOK Tryz.prog false 21 [.c (.int .i64 n)] (.c (nl (n + 1) (Z.xn1 n))) := by
  have o0 := of5_one
  have s0 := shift5_ok (n := 1) (k := n) (a := Z.one) (by omega) (by omega) (Nat.le_refl 1) (by decide) Z.one_fin fun i => by
    unfold Z.one
    split
    · decide
    · decide
  have e : Z.sh n Z.one = Z.mo 1 n := Z.sh_one 1 n
  rw [e] at s0
  have u0 := sub5_ok (n := n + 1) (m := 1) (a := Z.mo 1 n) (b := Z.one) (by omega) (by omega) (Z.mo_fin 1 n) Z.one_fin (fun i => by
    unfold Z.mo
    split
    · decide
    · decide) fun i => by
    unfold Z.one
    split
    · decide
    · decide
  have e2 : (fun i => Z.mo 1 n i - Z.one i) = Z.xn1 n := rfl
  rw [e2, Z.tl_is (k := n + 1) ((Z.xn1_fin h1).mono (by omega)) (Z.xn1_fin h1) (.inr (by rw [Nat.add_sub_cancel, Z.xn1_top h1]; decide))] at u0
  clear e e2
  generalize Z.xn1 n = X at *
  refine fn_ok (E := E0) E0_ok Tryz.func21 rfl mixed (by kernel_rfl) (by kernel_rfl) ?_
  conv => whnf
  refine ⟨fun i j hi hj => ?_, ?_⟩
  · match i, j, hi, hj with
    | 0, 0, _, _ => rfl
  conv => whnf
  refine ⟨_, o0, ?_⟩
  conv => whnf
  refine ⟨_, s0, ?_⟩
  conv => whnf
  refine ⟨fun i j hi hj => ?_, ?_⟩
  · match i, j, hi, hj with
    | 0, 0, _, _ => rfl
  conv => whnf
  refine ⟨_, o0, ?_⟩
  conv => whnf
  refine ⟨_, u0, ?_⟩
  conv => whnf
  exact ⟨rfl, Sub.refl _⟩
/-- One type more than the table has. -/
noncomputable def E0w : Env := ⟨Tryz.prog, false, fun T => if T == 43 then some ⟨false, 1, [.nil], 24, [], some 39, none, 0⟩ else tyE T, 0⟩
theorem tyW : tyOf Tryz.prog 43 = some ⟨false, 1, [.nil], 24, [], some 39, none, 0⟩ := by kernel_rfl
theorem E0w_ok : EnvOK E0w := ⟨fun T ti h => by
  by_cases e : T = 43
  · subst e
    have h : some (⟨false, 1, [.nil], 24, [], some 39, none, 0⟩ : TI) = some ti := h
    cases h
    exact tyW
  · have h2 : (if T == 43 then some (⟨false, 1, [.nil], 24, [], some 39, none, 0⟩ : TI) else tyE T) = some ti := h
    rw [if_neg (by simpa using e)] at h2
    exact tyE_ok T ti h2⟩
set_option maxHeartbeats 4000000 in
theorem product15_ok {k : Nat} {m M : Nat → Nat} {P Pr : Nat → Nat → Int} (hk : k ≤ 1000) (h0 : M 0 = 1) (p0 : Pr 0 = Z.one) (hm : ∀ i, i < k → FnOK Tryz.prog false 56 [.c (nl (M i) (Pr i)), .c (nl (m i) (P i))] (.c (nl (M (i + 1)) (Pr (i + 1))))) : FnOK Tryz.prog false 20 [.c (.row 1 k fun i _ => nl (m i) (P i))] (.c (nl (M k) (Pr k))) := by
  have o1 := rof_ok (x := 1) (by decide) (by decide)
  have st : ∀ x y, x < M 0 → y < 2 → rowF 2 (nz 1) x y = zlF (fun i => ofZ (Pr 0 i)) x y ∧ (zlF (fun i => ofZ (Pr 0 i)) x y).clos = true := fun x y hx hy => by
    rw [p0]
    have hx : x < 1 := by omega
    match x, y, hx, hy with
    | 0, 0, _, _ => exact ⟨rfl, rfl⟩
    | 0, 1, _, _ => exact ⟨rfl, rfl⟩
  have h0' : 1 = M 0 := h0.symm
  refine fn_ok (E := E0w) E0w_ok Tryz.func20 rfl mixed (by kernel_rfl) (by kernel_rfl) ?_
  conv => whnf
  refine ⟨_, o1, ?_⟩
  conv => whnf
  refine loop_ints (fun i : Nat => gst [(0, .c (.row 1 k fun i _ => nl (m i) (P i))), (3, .c (nl (M i) (Pr i))), (4, .c (.int .i64 i))] []) (fun i => k - i) (fun i => i ≤ k) 0 rfl (Weak.gen [] rfl trivial ⟨.inl ⟨_, _, rfl, rfl, fun _ _ _ _ => rfl⟩, .inr (.inr ⟨0, _, rfl, rfl, rfl, rfl, Nat.zero_le _, rfl, h0', st⟩), ⟨_, rfl, rfl⟩, trivial⟩) (Nat.zero_le _) fun i hi => ?_
  have hm := hm i
  conv => whnf
  refine bcase (fun (h : decide ((i : Int) < k) = true) => ?_) fun (h : decide ((i : Int) < k) = false) => ?_
  · have h := of_decide_eq_true h
    have hm := hm (by omega)
    conv => whnf
    refine ⟨by omega, by omega, ?_⟩
    conv => whnf
    refine ⟨_, hm, ?_⟩
    conv => whnf
    refine ⟨i64 (by omega) (by omega), ?_⟩
    conv => whnf
    exact ⟨i + 1, by omega, Weak.gen [] rfl trivial ⟨.inl ⟨_, _, rfl, rfl, fun _ _ _ _ => rfl⟩, .inl ⟨_, _, rfl, rfl, fun _ _ _ _ => rfl⟩, ⟨_, rfl, rfl⟩, trivial⟩, by omega⟩
  · have h := of_decide_eq_false h
    have g : Sub (.c (nl (M i) (Pr i))) (.c (nl (M k) (Pr k))) := by rw [show i = k by omega]; exact Sub.refl _
    conv => whnf
    exact ⟨rfl, g⟩
set_option maxHeartbeats 4000000 in
theorem poly15_ok {n k : Nat} {dv m L : Nat → Nat} {P S : Nat → Nat → Int} (hk : k ≤ 1000) (k1 : 1 ≤ k) (hP : FnOK Tryz.prog false 21 [.c (.int .i64 n)] (.c (nl (L 0) (S 0)))) (hD : FnOK Tryz.prog false 17 [.c (.int .i64 n)] (.c (ints k dv))) (hQ : ∀ i, i + 1 < k → FnOK Tryz.prog false 19 [.c (.int .i64 (dv i))] (.c (nl (m i) (P i))))
    (hd : ∀ i, i + 1 < k → FnOK Tryz.prog false 54 [.c (nl (L i) (S i)), .c (nl (m i) (P i))] (.t2 (.c (nl (L (i + 1)) (S (i + 1)))) (.c (.bool true)))) : FnOK Tryz.prog false 19 [.c (.int .i64 n)] (.c (nl (L (k - 1)) (S (k - 1)))) := by
  refine fn_ok (E := E0) E0_ok Tryz.func19 rfl mixed (by kernel_rfl) (by kernel_rfl) ?_
  conv => whnf
  refine ⟨_, hP, ?_⟩
  conv => whnf
  refine ⟨_, hD, ?_⟩
  conv => whnf
  refine loop_ints (fun i : Nat => gst [(3, .c (nl (L i) (S i))), (4, .c (ints k dv)), (5, .c (.int .i64 i))] []) (fun i => k - i) (fun i => i ≤ k - 1) 0 rfl (Weak.gen [] rfl trivial ⟨.inl ⟨_, _, rfl, rfl, fun _ _ _ _ => rfl⟩, .inl ⟨_, _, rfl, rfl, fun _ _ _ _ => rfl⟩, ⟨_, rfl, rfl⟩, trivial⟩) (Nat.zero_le _) fun i hi => ?_
  have hQ := hQ i
  have hd := hd i
  conv => whnf
  refine ⟨i64 (by omega) (by omega), ?_⟩
  conv => whnf
  refine bcase (fun (h : decide ((i : Int) + 1 < k) = true) => ?_) fun (h : decide ((i : Int) + 1 < k) = false) => ?_
  · have h := of_decide_eq_true h
    have hQ := hQ (by omega)
    have hd := hd (by omega)
    conv => whnf
    refine ⟨by omega, by omega, ?_⟩
    conv => whnf
    refine ⟨_, hQ, ?_⟩
    conv => whnf
    refine ⟨_, hd, ?_⟩
    conv => whnf
    refine ⟨i64 (by omega) (by omega), ?_⟩
    conv => whnf
    exact ⟨i + 1, by omega, Weak.gen [] rfl trivial ⟨.inl ⟨_, _, rfl, rfl, fun _ _ _ _ => rfl⟩, .inl ⟨_, _, rfl, rfl, fun _ _ _ _ => rfl⟩, ⟨_, rfl, rfl⟩, trivial⟩, by omega⟩
  · have h := of_decide_eq_false h
    have g : Sub (.c (nl (L i) (S i))) (.c (nl (L (k - 1)) (S (k - 1)))) := by rw [show i = k - 1 by omega]; exact Sub.refl _
    conv => whnf
    exact ⟨rfl, g⟩
set_option maxHeartbeats 3000000 in
theorem law15_ok {n k mN M : Nat} {dv m : Nat → Nat} {PN X : Nat → Int} {P : Nat → Nat → Int} (hn : 1 ≤ n) (hn2 : n ≤ 60) (hk : k ≤ 1000) (hA : FnOK Tryz.prog false 15 [] (.c (.bool true))) (hN : FnOK Tryz.prog false 16 [.c (.int .i64 n)] (.t2 (.c (nl mN PN)) (.c (.int .i64 0)))) (hD : FnOK Tryz.prog false 17 [.c (.int .i64 n)] (.c (ints k dv))) (hP : ∀ i, i < k → FnOK Tryz.prog false 16 [.c (.int .i64 (dv i))] (.t2 (.c (nl (m i) (P i))) (.c (.int .i64 0))))
    (hR : FnOK Tryz.prog false 19 [.c (.int .i64 n)] (.c (nl mN PN))) (hS : FnOK Tryz.prog false 18 [.c (nl mN PN), .c (nl mN PN)] (.c (.bool true))) (hT : FnOK Tryz.prog false 20 [.c (.row 1 k fun i _ => nl (m i) (P i))] (.c (nl M X))) (hU : FnOK Tryz.prog false 21 [.c (.int .i64 n)] (.c (nl M X))) (hV : FnOK Tryz.prog false 18 [.c (nl M X), .c (nl M X)] (.c (.bool true))) : FnOK Tryz.prog false 4 [.c (.int .i64 n)] (.c (.bool true)) := by
  have hT : ∀ i, i = k → FnOK Tryz.prog false 20 [.c (.row 1 i fun i _ => nl (m i) (P i))] (.c (nl M X)) := fun i e => by rw [e]; exact hT
  refine fn_ok (E := E0w) E0w_ok Tryz.func4 rfl mixed (by kernel_rfl) (by kernel_rfl) ?_
  conv => whnf
  refine ⟨_, hA, ?_⟩
  conv => whnf
  refine bpos (gw_true.2 (show decide ((n : Int) < 1) = false from decide_eq_false (by omega))) ?_
  conv => whnf
  refine bneg (show decide ((60 : Int) < n) = false from decide_eq_false (by omega)) ?_
  conv => whnf
  refine ⟨_, hN, ?_⟩
  conv => whnf
  refine ⟨_, hD, ?_⟩
  conv => whnf
  refine loop_ints (fun i : Nat => gst [(0, .c (.int .i64 n)), (3, .c (nl mN PN)), (4, .c (.int .i64 0)), (5, .c (.gs 0 0)), (6, .c (ints k dv)), (7, .c (.int .i64 i))] [⟨39, 1, i, fun a _ => nl (m a) (P a)⟩]) (fun i => k - i) (fun i => i ≤ k) 0 rfl (Weak.gen [none] rfl ⟨rfl, trivial⟩ ⟨⟨_, rfl, rfl⟩, .inl ⟨_, _, rfl, rfl, fun _ _ _ _ => rfl⟩, ⟨_, rfl, rfl⟩, rfl, .inl ⟨_, _, rfl, rfl, fun _ _ _ _ => rfl⟩, ⟨_, rfl, rfl⟩, trivial⟩) (Nat.zero_le _) fun i hi => ?_
  have hP := hP i
  have hT := hT i
  conv => whnf
  refine bcase (fun (h : decide ((i : Int) < k) = true) => ?_) fun (h : decide ((i : Int) < k) = false) => ?_
  · have h := of_decide_eq_true h
    have hP := hP (by omega)
    conv => whnf
    refine ⟨by omega, by omega, ?_⟩
    conv => whnf
    refine ⟨_, hP, ?_⟩
    conv => whnf
    refine ⟨by show i + 1 ≤ 16777216; omega, fun a b ha hb => ?_, ?_⟩
    · match a, b, ha, hb with
      | 0, 0, _, _ => exact ⟨rfl, fun h => by cases h⟩
    conv => whnf
    refine ⟨i64 (by omega) (by omega), ?_⟩
    conv => whnf
    exact ⟨i + 1, by omega, Weak.gen [some 0] rfl ⟨⟨_, rfl, rfl, rfl, rfl, rfl, fun a b ha hb => regApp (t := fun a => nl (m a) (P a)) ha hb (fun _ => regE rfl rfl) (regE rfl rfl)⟩, trivial⟩ ⟨⟨_, rfl, rfl⟩, .inl ⟨_, _, rfl, rfl, fun _ _ _ _ => rfl⟩, ⟨_, rfl, rfl⟩, ⟨_, rfl, rfl, rfl⟩, .inl ⟨_, _, rfl, rfl, fun _ _ _ _ => rfl⟩, ⟨_, rfl, rfl⟩, trivial⟩, by omega⟩
  · have h := of_decide_eq_false h
    have hT := hT (by omega)
    conv => whnf
    refine ⟨_, hR, ?_⟩
    conv => whnf
    refine ⟨_, hS, ?_⟩
    conv => whnf
    refine ⟨fun _ _ _ _ => rfl, ?_⟩
    conv => whnf
    refine ⟨_, hT, ?_⟩
    conv => whnf
    refine ⟨_, hU, ?_⟩
    conv => whnf
    refine ⟨_, hV, ?_⟩
    conv => whnf
    exact ⟨rfl, Sub.refl _⟩
end Rf
end Go.Proofs.YtigciplaoikcfaaGreat
/- Products and quotients of literal lists of the document's integer polynomials. -/
namespace Go.Proofs.YtigciplaoikcfaaGreat
open Go.RowKit
namespace Z
theorem zlen64 {x : Int} (h : x.natAbs < 18446744073709551616) : zlen x ≤ 2 := zlen_le (Nat.lt_of_lt_of_le h (by decide))
theorem su_abs {f : Nat → Int} {M N : Nat} (hf : ∀ i, (f i).natAbs ≤ M) (h0 : ∀ i, N ≤ i → f i = 0) : ∀ n, (su f n).natAbs ≤ min n N * M
  | 0 => by show (0 : Int).natAbs ≤ _; simp
  | n + 1 => by
    have ih := su_abs hf h0 n
    show (su f n + f n).natAbs ≤ _
    rcases Nat.lt_or_ge n N with c | c
    · have h1 := Int.natAbs_add_le (su f n) (f n)
      have h2 := hf n
      have h3 : min (n + 1) N = min n N + 1 := by omega
      rw [h3, Nat.succ_mul]
      omega
    · rw [h0 n c, Int.add_zero]
      have h3 : min (n + 1) N = min n N := by omega
      rw [h3]; exact ih
def smB (l : List Int) : Bool := decide (l.length ≤ 200) && l.all fun x => decide (x.natAbs ≤ 1048576)
abbrev gl (l : List Int) (i : Nat) : Int := l.getD i 0
theorem smB_abs {l : List Int} (h : smB l = true) (i : Nat) : (gl l i).natAbs ≤ 1048576 := by
  unfold smB at h
  simp only [Bool.and_eq_true] at h
  show (l.getD i 0).natAbs ≤ _
  rw [List.getD_eq_getElem?_getD]
  cases hx : l[i]? with
  | none => exact Nat.zero_le _
  | some x => exact of_decide_eq_true (List.all_eq_true.1 h.2 x (List.mem_of_getElem? hx))
theorem smB_len {l : List Int} (h : smB l = true) : l.length ≤ 200 := by
  unfold smB at h
  simp only [Bool.and_eq_true, decide_eq_true_eq] at h
  exact h.1
theorem gl_fin (l : List Int) : Fin l.length (gl l) := fun i hi => by
  show l.getD i 0 = 0
  rw [List.getD_eq_getElem?_getD, List.getElem?_eq_none hi]; rfl
theorem gl_len {l : List Int} (h : smB l = true) (i : Nat) : zlen (gl l i) ≤ 2 := zlen64 (by have := smB_abs h i; omega)
theorem prod_abs {x y : Int} (hx : x.natAbs ≤ 1048576) (hy : y.natAbs ≤ 1048576) : (x * y).natAbs ≤ 1099511627776 := by
  rw [Int.natAbs_mul]
  exact Nat.mul_le_mul hx hy
/-- Sums of products of two short lists are short. -/
theorem sum_len {F G : Nat → Int} {N : Nat} (hN : N ≤ 200) (hF : ∀ i, (F i).natAbs ≤ 1048576) (hG : ∀ i, (G i).natAbs ≤ 1048576) (f0 : Fin N F) (k i : Nat) : zlen (su (fun a => F a * G (k - a)) i) ≤ 2 := zlen64 (by
  have h := su_abs (f := fun a => F a * G (k - a)) (M := 1099511627776) (N := N) (fun a => prod_abs (hF a) (hG (k - a))) (fun a ha => by show F a * _ = 0; rw [f0 a ha, Int.zero_mul]) i
  have h2 : min i N * 1099511627776 ≤ 200 * 1099511627776 := Nat.mul_le_mul_right _ (by omega)
  omega)
def eqB (n : Nat) (F G : Nat → Int) : Bool := (List.range n).all fun k => F k == G k
theorem eqB_ok {n : Nat} {F G : Nat → Int} (h : eqB n F G = true) (hF : Fin n F) (hG : Fin n G) : F = G := funext fun k => by
  rcases Nat.lt_or_ge k n with c | c
  · exact beq_iff_eq.1 (List.all_eq_true.1 h k (List.mem_range.2 c))
  · rw [hF k c, hG k c]
def topB (l : List Int) : Bool := l.length == 0 || !(gl l (l.length - 1) == 0)
theorem topB_ok {l : List Int} (h : topB l = true) : l.length = 0 ∨ gl l (l.length - 1) ≠ 0 := by
  unfold topB at h
  simp only [Bool.or_eq_true, beq_iff_eq, Bool.not_eq_true', beq_eq_false_iff_ne] at h
  exact h
end Z
namespace Rf
def mulB (a b c : List Int) : Bool := Z.smB a && Z.smB b && Z.topB c && decide (c.length ≤ a.length + b.length) && Z.eqB (a.length + b.length) (Z.cf (Z.gl a) (Z.gl b)) (Z.gl c)
theorem mul_check {a b c : List Int} (h : mulB a b c = true) : FnOK Tryz.prog false 56 [.c (nl a.length (Z.gl a)), .c (nl b.length (Z.gl b))] (.c (nl c.length (Z.gl c))) := by
  unfold mulB at h
  simp only [Bool.and_eq_true, decide_eq_true_eq] at h
  obtain ⟨⟨⟨⟨h1, h2⟩, h3⟩, h4⟩, h5⟩ := h
  have l1 := Z.smB_len h1
  have l2 := Z.smB_len h2
  have fa := Z.gl_fin a
  have fb := Z.gl_fin b
  have hm := mul5_ok fa fb (by omega) (by omega) (fun i => Nat.le_trans (Z.gl_len h1 i) (by decide)) (fun i => Nat.le_trans (Z.gl_len h2 i) (by decide)) (fun k i => Nat.le_trans (Z.sum_len l1 (Z.smB_abs h1) (Z.smB_abs h2) fa k i) (by decide))
  have e := Z.eqB_ok h5 (fa.cf fb) ((Z.gl_fin c).mono h4)
  rw [e] at hm
  rw [Z.tl_is ((Z.gl_fin c).mono h4) (Z.gl_fin c) (Z.topB_ok h3)] at hm
  exact hm
def divB (q b : List Int) (n : Nat) (c : Nat → Int) : Bool := Z.smB q && Z.smB b && Z.topB q && decide (1 ≤ q.length) && decide (1 ≤ b.length) && (Z.gl b (b.length - 1) == 1) && (n == q.length + (b.length - 1)) && Z.eqB n (Z.cf (Z.gl q) (Z.gl b)) c
theorem div_check {q b : List Int} {n : Nat} {c : Nat → Int} (hc : Z.Fin n c) (h : divB q b n c = true) : FnOK Tryz.prog false 54 [.c (nl n c), .c (nl b.length (Z.gl b))] (.t2 (.c (nl q.length (Z.gl q))) (.c (.bool true))) := by
  unfold divB at h
  simp only [Bool.and_eq_true, decide_eq_true_eq, beq_iff_eq] at h
  obtain ⟨⟨⟨⟨⟨⟨⟨h1, h2⟩, h3⟩, h4⟩, h5⟩, h6⟩, h7⟩, h8⟩ := h
  have l1 := Z.smB_len h1
  have l2 := Z.smB_len h2
  have fq := Z.gl_fin q
  have fb := Z.gl_fin b
  obtain ⟨d, hd⟩ : ∃ d, d = b.length - 1 := ⟨_, rfl⟩
  have hb : b.length = d + 1 := by omega
  rw [← hd] at h6 h7
  rw [hb] at fb ⊢
  have aq := Z.smB_abs h1
  have ab := Z.smB_abs h2
  have el : Z.lo q.length (Z.gl q) = Z.gl q := funext fun i => by
    unfold Z.lo
    split
    · rfl
    · exact (fq i (by omega)).symm
  have a1 : ∀ k i, (Z.lo k (Z.gl q) i).natAbs ≤ 1048576 := fun k i => by
    unfold Z.lo
    split
    · exact aq i
    · exact Nat.zero_le _
  have f1 : ∀ k, Z.Fin q.length (Z.lo k (Z.gl q)) := fun k i hi => by
    unfold Z.lo
    split
    · exact fq i hi
    · rfl
  have a2 : ∀ k i, (Z.mo (Z.gl q k) k i).natAbs ≤ 1048576 := fun k i => by
    unfold Z.mo
    split
    · exact aq k
    · exact Nat.zero_le _
  have f2 : ∀ k, Z.Fin q.length (Z.mo (Z.gl q k) k) := fun k i hi => by
    unfold Z.mo
    split
    · rename_i e; rw [← e]; exact fq i hi
    · rfl
  have hm := divide5_ok (d := d) (t := q.length) (q := Z.gl q) (b := Z.gl b) (by omega) (by omega) ⟨h6, fb⟩ fq (Z.topB_ok h3) (fun i => Nat.le_trans (Z.gl_len h1 i) (by decide)) (fun i => Nat.le_trans (Z.gl_len h2 i) (by decide)) (fun k j => Nat.le_trans (Z.sum_len l1 (a1 k) ab (f1 k) j (j + 1)) (by decide)) (fun k j i => Nat.le_trans (Z.sum_len l1 (a2 k) ab (f2 k) j i) (by decide))
  have e0 : lenR d q.length = n := by rw [h7]; exact if_neg (by omega)
  have fc : Z.Fin n (Z.cf (Z.gl q) (Z.gl b)) := by
    have h := Z.part_fin (k := q.length) (q := Z.gl q) fb
    rw [el] at h
    rw [h7]
    exact h
  rw [el, e0, Z.eqB_ok h8 fc hc] at hm
  exact hm
end Rf
end Go.Proofs.YtigciplaoikcfaaGreat
/- The law of the cyclotomic polynomials at one order, from runs and checks of literal lists. -/
namespace Go.Proofs.YtigciplaoikcfaaGreat
open Go.RowKit
namespace Rf
abbrev lg (Q : List (List Int)) (i : Nat) : List Int := Q.getD i []
def powB (n : Nat) (c : List Int) : Bool := (c.length == n + 1) && Z.eqB (n + 1) (Z.xn1 n) (Z.gl c)
theorem pow_check {n : Nat} {c : List Int} (h1 : 1 ≤ n) (hn : n ≤ 1000) (h : powB n c = true) : FnOK Tryz.prog false 21 [.c (.int .i64 n)] (.c (nl c.length (Z.gl c))) := by
  unfold powB at h
  simp only [Bool.and_eq_true, beq_iff_eq] at h
  have e := Z.eqB_ok h.2 (Z.xn1_fin h1) (by rw [← h.1]; exact Z.gl_fin c)
  have hp := power15_ok h1 hn
  rw [e, ← h.1] at hp
  exact hp
def refB (n k : Nat) (Q P : List (List Int)) : Bool := decide (1 ≤ n) && decide (n ≤ 60) && decide (1 ≤ k) && decide (k ≤ 1000) && powB n (lg Q 0) && (List.range (k - 1)).all fun i => divB (lg Q (i + 1)) (lg P i) (lg Q i).length (Z.gl (lg Q i))
theorem ref_check {n : Nat} {dv : List Nat} {Q P : List (List Int)} {l : List Int} (hD : FnOK Tryz.prog false 17 [.c (.int .i64 n)] (.c (ints dv.length fun i => dv.getD i 0))) (hb : refB n dv.length Q P = true) (hl : lg Q (dv.length - 1) = l) (hQ : ∀ i, i + 1 < dv.length → FnOK Tryz.prog false 19 [.c (.int .i64 (dv.getD i 0 : Nat))] (.c (nl (lg P i).length (Z.gl (lg P i))))) : FnOK Tryz.prog false 19 [.c (.int .i64 n)] (.c (nl l.length (Z.gl l))) := by
  unfold refB at hb
  simp only [Bool.and_eq_true, decide_eq_true_eq] at hb
  obtain ⟨⟨⟨⟨⟨h1, h2⟩, h3⟩, h4⟩, h5⟩, h6⟩ := hb
  have h := poly15_ok (L := fun i => (lg Q i).length) (S := fun i => Z.gl (lg Q i)) (m := fun i => (lg P i).length) (P := fun i => Z.gl (lg P i)) (dv := fun i => dv.getD i 0) h4 h3 (pow_check h1 (by omega) h5) hD hQ fun i hi => div_check (Z.gl_fin _) (List.all_eq_true.1 h6 i (List.mem_range.2 (by omega)))
  rw [← hl]
  exact h
theorem one_gl : Z.gl [1] = Z.one := funext fun i => match i with
  | 0 => rfl
  | _ + 1 => rfl
def lawB (n k : Nat) (R P : List (List Int)) (l : List Int) : Bool := decide (1 ≤ n) && decide (n ≤ 60) && decide (k ≤ 1000) && Z.smB l && (lg R 0 == [1]) && powB n (lg R k) && Z.smB (lg R k) && (List.range k).all fun i => mulB (lg R i) (lg P i) (lg R (i + 1))
theorem law_check {n : Nat} {dv : List Nat} {R P : List (List Int)} {l : List Int} (hA : FnOK Tryz.prog false 15 [] (.c (.bool true))) (hD : FnOK Tryz.prog false 17 [.c (.int .i64 n)] (.c (ints dv.length fun i => dv.getD i 0))) (hN : FnOK Tryz.prog false 16 [.c (.int .i64 n)] (.t2 (.c (nl l.length (Z.gl l))) (.c (.int .i64 0)))) (hR : FnOK Tryz.prog false 19 [.c (.int .i64 n)] (.c (nl l.length (Z.gl l)))) (hb : lawB n dv.length R P l = true)
    (hP : ∀ i, i < dv.length → FnOK Tryz.prog false 16 [.c (.int .i64 (dv.getD i 0 : Nat))] (.t2 (.c (nl (lg P i).length (Z.gl (lg P i)))) (.c (.int .i64 0)))) : FnOK Tryz.prog false 4 [.c (.int .i64 n)] (.c (.bool true)) := by
  unfold lawB at hb
  simp only [Bool.and_eq_true, decide_eq_true_eq, beq_iff_eq] at hb
  obtain ⟨⟨⟨⟨⟨⟨⟨h1, h2⟩, h3⟩, h4⟩, h5⟩, h6⟩, h7⟩, h8⟩ := hb
  have s1 := sameInts_n (n := l.length) (v := Z.gl l) (by have := Z.smB_len h4; omega) fun i => Nat.le_trans (Z.gl_len h4 i) (by decide)
  have s2 := sameInts_n (n := (lg R dv.length).length) (v := Z.gl (lg R dv.length)) (by have := Z.smB_len h7; omega) fun i => Nat.le_trans (Z.gl_len h7 i) (by decide)
  have hT := product15_ok (k := dv.length) (m := fun i => (lg P i).length) (M := fun i => (lg R i).length) (P := fun i => Z.gl (lg P i)) (Pr := fun i => Z.gl (lg R i)) h3 (by show (lg R 0).length = 1; rw [h5]; rfl) (by show Z.gl (lg R 0) = Z.one; rw [h5]; exact one_gl) fun i hi => mul_check (List.all_eq_true.1 h8 i (List.mem_range.2 hi))
  exact law15_ok h1 h2 h3 hA hN hD hP hR s1 hT (pow_check h1 (by omega) h6) s2
set_option maxHeartbeats 3000000 in
/-- Orders that the law does not ask for. -/
theorem law15_out {n : Int} (hA : FnOK Tryz.prog false 15 [] (.c (.bool true))) (h : n < 1 ∨ 60 < n) : FnOK Tryz.prog false 4 [.c (.int .i64 n)] (.c (.bool true)) := by
  refine fn_ok (E := E0w) E0w_ok Tryz.func4 rfl mixed (by kernel_rfl) (by kernel_rfl) ?_
  conv => whnf
  refine ⟨_, hA, ?_⟩
  conv => whnf
  refine bcase (fun (h1 : gw false (decide (n < 1)) = true) => ?_) fun (h1 : gw false (decide (n < 1)) = false) => ?_
  · have h1 := of_decide_eq_false (gwf h1)
    conv => whnf
    refine bpos (show decide ((60 : Int) < n) = true from decide_eq_true (by omega)) ?_
    conv => whnf
    exact ⟨rfl, Sub.refl _⟩
  · conv => whnf
    exact ⟨rfl, Sub.refl _⟩
end Rf
end Go.Proofs.YtigciplaoikcfaaGreat
