/- Lists of integers and of fractions in the program; the form of a number field. -/
import Derived.Test.YtigciplaoikcfaaGreatNl
namespace Go.Proofs.YtigciplaoikcfaaGreat
open Go.RowKit
/-- The length without what is dropped at the end. -/
def tb (p : Nat → Bool) : Nat → Nat
  | 0 => 0
  | n + 1 => if p n = true then tb p n else n + 1
theorem tb_le (p : Nat → Bool) : ∀ n, tb p n ≤ n
  | 0 => Nat.le_refl _
  | n + 1 => by
    unfold tb
    split
    · exact Nat.le_succ_of_le (tb_le p n)
    · exact Nat.le_refl _
theorem tb_tl {p : Nat → Bool} {v : Nat → Int} : ∀ {n : Nat}, (∀ i, i < n → (p i = true ↔ v i = 0)) → tb p n = tl v n
  | 0, _ => rfl
  | n + 1, h => by
    have h1 := h n (by omega)
    unfold tb tl
    rw [tb_tl fun i hi => h i (by omega)]
    by_cases c : v n = 0
    · rw [if_pos (h1.2 c), if_pos c]
    · rw [if_neg (fun e => c (h1.1 e)), if_neg c]
/-- A list of fractions as its fields stand. -/
abbrev qlF (q : Nat → RawR) (i j : Nat) : Cell := (rr (q i)).getD j .any
abbrev ql (n : Nat) (q : Nat → RawR) : Cell := .row 4 n (qlF q)
theorem qlF_eq {c e : Nat → RawR} {i j k : Nat} (h : c i = e k) : qlF c i j = qlF e k j := by unfold qlF; rw [h]
theorem ql_clos {c : Nat → RawR} (i j : Nat) : (qlF c i j).clos = true := by
  match j with
  | 0 => rfl
  | 1 => rfl
  | 2 => rfl
  | 3 => rfl
  | j + 4 => rfl
namespace Rf
set_option maxHeartbeats 4000000 in
theorem ztrim_ok {n : Nat} {c : Nat → RawZ} (hn : n ≤ 1048576) : FnOK Tryz.prog false 190 [.c (zl n c)] (.c (zl (tb (fun i => decide ((c i).ds.length = 0)) n) c)) := by
  refine fn_ok (E := E0) E0_ok Tryz.func190 rfl mixed (by kernel_rfl) (by kernel_rfl) ?_
  conv => whnf
  refine loop_ints (fun m : Nat => gst [(0, .c (zl m c))] []) (fun m => m) (fun m => m ≤ n ∧ tb (fun i => decide ((c i).ds.length = 0)) m = tb (fun i => decide ((c i).ds.length = 0)) n) n rfl (Weak.gen [] rfl trivial ⟨.inl ⟨_, _, rfl, rfl, fun _ _ _ _ => rfl⟩, trivial⟩) ⟨Nat.le_refl _, rfl⟩ fun m ⟨hm, ht⟩ => ?_
  have hz : ∀ k, m = k + 1 → (c k).ds.length = 0 → tb (fun i => decide ((c i).ds.length = 0)) k = tb (fun i => decide ((c i).ds.length = 0)) n := fun k e h => by
    rw [← ht, e]
    simp only [tb]
    rw [if_pos (decide_eq_true h)]
  have hz' : ∀ k, m = k + 1 → (c k).ds.length ≠ 0 → m = tb (fun i => decide ((c i).ds.length = 0)) n := fun k e h => by
    rw [← ht, e]
    simp only [tb]
    rw [if_neg (by simpa using h)]
  have h0 : m = 0 → m = tb (fun i => decide ((c i).ds.length = 0)) n := fun e => by rw [← ht, e]; rfl
  clear ht
  generalize tb (fun i => decide ((c i).ds.length = 0)) n = N at *
  conv => whnf
  refine bcase (fun (h : gw true (decide ((0 : Int) < m)) = true) => ?_) fun (h : gw true (decide ((0 : Int) < m)) = false) => ?_
  · have h := of_decide_eq_true (gw_true.1 h)
    have ek : m = ((m : Int) - 1).toNat + 1 := by omega
    have g1 := hz _ ek
    have g2 := hz' _ ek
    conv => whnf
    refine ⟨i64 (by omega) (by omega), ?_⟩
    conv => whnf
    refine ⟨by omega, by omega, ?_⟩
    conv => whnf
    refine bcase (fun (h1 : decide (((c ((m : Int) - 1).toNat).ds.length : Int) = 0) = true) => ?_) fun (h1 : decide (((c ((m : Int) - 1).toNat).ds.length : Int) = 0) = false) => ?_
    · have h1 := of_decide_eq_true h1
      have g := g1 (by omega)
      conv => whnf
      refine ⟨i64 (by omega) (by omega), ?_⟩
      conv => whnf
      refine ⟨by omega, by omega, ?_⟩
      conv => whnf
      refine ⟨by omega, ?_⟩
      conv => whnf
      exact ⟨((m : Int) - 1).toNat, by omega, Weak.gen [] rfl trivial ⟨.inl ⟨_, _, rfl, by omega, fun i j hi hj => zlF_eq (c := c) (e := c) (i := Int.toNat 0 + i) (k := i) (congrArg c (by omega))⟩, trivial⟩, by omega, g⟩
    · have h1 := of_decide_eq_false h1
      have g := g2 (by omega)
      conv => whnf
      exact ⟨rfl, subRowG g fun _ _ _ _ => rfl⟩
  · have h : ¬ (0 : Int) < m := of_decide_eq_false (gw_false.1 h)
    have g := h0 (by omega)
    conv => whnf
    exact ⟨rfl, subRowG g fun _ _ _ _ => rfl⟩
set_option maxHeartbeats 4000000 in
theorem qtrim_ok {n : Nat} {c : Nat → RawR} (hn : n ≤ 1048576) : FnOK Tryz.prog false 75 [.c (ql n c)] (.c (ql (tb (fun i => decide ((c i).num.ds.length = 0)) n) c)) := by
  refine fn_ok (E := E0) E0_ok Tryz.func75 rfl mixed (by kernel_rfl) (by kernel_rfl) ?_
  conv => whnf
  refine loop_ints (fun m : Nat => gst [(0, .c (ql m c))] []) (fun m => m) (fun m => m ≤ n ∧ tb (fun i => decide ((c i).num.ds.length = 0)) m = tb (fun i => decide ((c i).num.ds.length = 0)) n) n rfl (Weak.gen [] rfl trivial ⟨.inl ⟨_, _, rfl, rfl, fun _ _ _ _ => rfl⟩, trivial⟩) ⟨Nat.le_refl _, rfl⟩ fun m ⟨hm, ht⟩ => ?_
  have hz : ∀ k, m = k + 1 → (c k).num.ds.length = 0 → tb (fun i => decide ((c i).num.ds.length = 0)) k = tb (fun i => decide ((c i).num.ds.length = 0)) n := fun k e h => by
    rw [← ht, e]
    simp only [tb]
    rw [if_pos (decide_eq_true h)]
  have hz' : ∀ k, m = k + 1 → (c k).num.ds.length ≠ 0 → m = tb (fun i => decide ((c i).num.ds.length = 0)) n := fun k e h => by
    rw [← ht, e]
    simp only [tb]
    rw [if_neg (by simpa using h)]
  have h0 : m = 0 → m = tb (fun i => decide ((c i).num.ds.length = 0)) n := fun e => by rw [← ht, e]; rfl
  clear ht
  generalize tb (fun i => decide ((c i).num.ds.length = 0)) n = N at *
  conv => whnf
  refine bcase (fun (h : gw true (decide ((0 : Int) < m)) = true) => ?_) fun (h : gw true (decide ((0 : Int) < m)) = false) => ?_
  · have h := of_decide_eq_true (gw_true.1 h)
    have ek : m = ((m : Int) - 1).toNat + 1 := by omega
    have g1 := hz _ ek
    have g2 := hz' _ ek
    conv => whnf
    refine ⟨i64 (by omega) (by omega), ?_⟩
    conv => whnf
    refine ⟨by omega, by omega, ?_⟩
    conv => whnf
    refine bcase (fun (h1 : decide (((c ((m : Int) - 1).toNat).num.ds.length : Int) = 0) = true) => ?_) fun (h1 : decide (((c ((m : Int) - 1).toNat).num.ds.length : Int) = 0) = false) => ?_
    · have h1 := of_decide_eq_true h1
      have g := g1 (by omega)
      conv => whnf
      refine ⟨i64 (by omega) (by omega), ?_⟩
      conv => whnf
      refine ⟨by omega, by omega, ?_⟩
      conv => whnf
      refine ⟨by omega, ?_⟩
      conv => whnf
      exact ⟨((m : Int) - 1).toNat, by omega, Weak.gen [] rfl trivial ⟨.inl ⟨_, _, rfl, by omega, fun i j hi hj => qlF_eq (c := c) (e := c) (i := Int.toNat 0 + i) (k := i) (congrArg c (by omega))⟩, trivial⟩, by omega, g⟩
    · have h1 := of_decide_eq_false h1
      have g := g2 (by omega)
      conv => whnf
      exact ⟨rfl, subRowG g fun _ _ _ _ => rfl⟩
  · have h : ¬ (0 : Int) < m := of_decide_eq_false (gw_false.1 h)
    have g := h0 (by omega)
    conv => whnf
    exact ⟨rfl, subRowG g fun _ _ _ _ => rfl⟩
end Rf
end Go.Proofs.YtigciplaoikcfaaGreat
/- Normal forms of lists in the program, and the form of a number field. -/
namespace Go.Proofs.YtigciplaoikcfaaGreat
open Go.RowKit
namespace Rf
/-- A list that is normal up to a place, and 0 behind it. -/
def zpF (v : Nat → Int) (i k : Nat) : List Cell := if k < i then nz (v k) else [.bool false, .nil]
theorem zp_next (v : Nat → Int) (i k : Nat) : (if k = i then nz (v i) else zpF v i k) = zpF v (i + 1) k := by
  unfold zpF
  by_cases e : k = i
  · rw [if_pos e, if_pos (by omega), e]
  · rw [if_neg e]
    by_cases e2 : k < i
    · rw [if_pos e2, if_pos (by omega)]
    · rw [if_neg e2, if_neg (by omega)]
theorem zp_clos {v : Nat → Int} {i : Nat} (k j : Nat) : ((zpF v i k).getD j .any).clos = true := by
  unfold zpF
  split
  · exact zl_clos (c := fun i => ofZ (v i)) k j
  · match j with
    | 0 => rfl
    | 1 => rfl
    | j + 2 => rfl
theorem zp_all {v : Nat → Int} {n k : Nat} (h : k < n) (j : Nat) : (zpF v n k).getD j .any = zlF (fun i => ofZ (v i)) k j := by
  unfold zpF; rw [if_pos h]
theorem zp_zero (v : Nat → Int) (k : Nat) : zpF v 0 k = [.bool false, .nil] := by
  unfold zpF; rw [if_neg (Nat.not_lt_zero k)]
abbrev gzp (n : Nat) (v : Nat → Int) (i : Nat) : Gx := ⟨61, 2, n, fun k j => (zpF v i k).getD j .any⟩
set_option maxHeartbeats 4000000 in
theorem znormal_ok {n : Nat} {c : Nat → RawZ} (h : wl n c) : FnOK Tryz.prog true 175 [.c (zl n c)] (.c (nl (tl (vz c) n) (vz c))) := by
  have hn := h.1
  have h1 : ∀ i, i < n → FnOK Tryz.prog true 144 [.g (zr (c i))] (.g (nz (vz c i))) := fun i hi => normal_ok (h.2 i hi).1 (Nat.le_trans (h.2 i hi).2 (by decide))
  have h2 : FnOK Tryz.prog true 190 [.c (nl n (vz c))] (.c (nl (tl (vz c) n) (vz c))) := by
    have := (ztrim_ok (c := fun i => ofZ (vz c i)) hn).weak (r := true)
    rwa [tb_tl (p := fun i => decide ((ofZ (vz c i)).ds.length = 0)) (v := vz c) (n := n) fun i _ => ⟨fun a => zlen_eq_zero.1 (of_decide_eq_true a), fun a => decide_eq_true (zlen_eq_zero.2 a)⟩] at this
  clear h
  generalize vz c = v at *
  have hT : ∀ i, i = n → FnOK Tryz.prog true 190 [.c (.row 2 n fun k j => (zpF v i k).getD j .any)] (.c (nl (tl v n) v)) := fun i e => arg_ok h2 fun D w vs h => by
    match vs, h with
    | [v1], ⟨h1, _⟩ => exact ⟨subRowG rfl (fun k j hk hj => by rw [e]; exact zp_all hk j) D w v1 h1, trivial⟩
  refine fn_ok (E := E1) E1_ok Tryz.func175 rfl mixed (by kernel_rfl) (by kernel_rfl) ?_
  conv => whnf
  refine ⟨by omega, Int.le_refl _, by omega, by show (32 : Int) * n ≤ 281474976710656; omega, ?_⟩
  conv => whnf
  refine loop_ints (fun i : Nat => gst [(3, .c (.gs 0 0)), (9, .c (zl n c)), (10, .c (.int .i64 n)), (11, .c (.int .i64 i))] [gzp n v i]) (fun i => n - i) (fun i => i ≤ n) 0 rfl (Weak.gen [some 0] rfl ⟨⟨_, rfl, rfl, rfl, by show Int.toNat n = n; omega, rfl, fun k j hk hj => ?_⟩, trivial⟩ ⟨⟨_, rfl, rfl, rfl⟩, .inl ⟨_, _, rfl, rfl, fun _ _ _ _ => rfl⟩, ⟨_, rfl, rfl⟩, ⟨_, rfl, rfl⟩, trivial⟩) (Nat.zero_le _) fun i hi => ?_
  · exact regE (congrArg (fun l => l.getD j .any) (zp_zero v k).symm) (zp_clos k j)
  conv => whnf
  refine bcase (fun (h : decide ((i : Int) < n) = true) => ?_) fun (h : decide ((i : Int) < n) = false) => ?_
  · have h := of_decide_eq_true h
    have g1 := h1 i (by omega)
    conv => whnf
    refine ⟨by omega, by omega, ?_⟩
    conv => whnf
    refine ⟨_, g1, ?_⟩
    conv => whnf
    refine ⟨by omega, by show (i : Int) < (n : Int); omega, ?_⟩
    conv => whnf
    refine ⟨i64 (by omega) (by omega), ?_⟩
    conv => whnf
    refine ⟨i + 1, by omega, Weak.gen [some 0] rfl ⟨⟨_, rfl, rfl, rfl, rfl, rfl, fun j k hj hk => regE ?_ (zp_clos j k)⟩, trivial⟩ ⟨⟨_, rfl, rfl, rfl⟩, .inl ⟨_, _, rfl, rfl, fun _ _ _ _ => rfl⟩, ⟨_, rfl, rfl⟩, ⟨_, rfl, rfl⟩, trivial⟩, by omega⟩
    exact updG (sz := 2) (g := zpF v i) (g' := zpF v (i + 1)) (l := nz (v i)) rfl hk (zp_next v i j)
  · have h := of_decide_eq_false h
    have g := hT i (by omega)
    conv => whnf
    refine ⟨fun k j _ _ => zp_clos k j, ?_⟩
    conv => whnf
    refine ⟨_, g, ?_⟩
    conv => whnf
    exact ⟨rfl, Sub.refl _⟩
set_option maxHeartbeats 4000000 in
theorem qwhole_ok {a : RawZ} (ha : wr a) : FnOK Tryz.prog true 189 [.g (zr a)] (.g (nq (a.val : Rat))) := by
  have h1 := normal_ok ha.1 (Nat.le_trans ha.2 (by decide))
  have h2 := of_ok (x := 1) (by decide) (by decide)
  refine fn_ok (E := E1) E1_ok Tryz.func189 rfl mixed (by kernel_rfl) (by kernel_rfl) ?_
  conv => whnf
  refine ⟨_, h1, ?_⟩
  conv => whnf
  refine ⟨_, h2, ?_⟩
  conv => whnf
  refine ⟨rfl, leaf (x := (a.val : Rat)) (n := a.val) (d := 1) ?_⟩
  unfold ofR; simp
/-- A list of fractions up to a place, and nothing behind it. -/
def qpF (v : Nat → Rat) (i k : Nat) : List Cell := if k < i then nq (v k) else [.bool false, .nil, .bool false, .nil]
theorem qp_next (v : Nat → Rat) (i k : Nat) : (if k = i then nq (v i) else qpF v i k) = qpF v (i + 1) k := by
  unfold qpF
  by_cases e : k = i
  · rw [if_pos e, if_pos (by omega), e]
  · rw [if_neg e]
    by_cases e2 : k < i
    · rw [if_pos e2, if_pos (by omega)]
    · rw [if_neg e2, if_neg (by omega)]
theorem qp_clos {v : Nat → Rat} {i : Nat} (k j : Nat) : ((qpF v i k).getD j .any).clos = true := by
  unfold qpF
  split
  · exact ql_clos (c := fun i => ofR (v i)) k j
  · match j with
    | 0 => rfl
    | 1 => rfl
    | 2 => rfl
    | 3 => rfl
    | j + 4 => rfl
theorem qp_all {v : Nat → Rat} {n k : Nat} (h : k < n) (j : Nat) : (qpF v n k).getD j .any = qlF (fun i => ofR (v i)) k j := by
  unfold qpF; rw [if_pos h]
theorem qp_zero (v : Nat → Rat) (k : Nat) : qpF v 0 k = [.bool false, .nil, .bool false, .nil] := by
  unfold qpF; rw [if_neg (Nat.not_lt_zero k)]
abbrev gqp (n : Nat) (v : Nat → Rat) (i : Nat) : Gx := ⟨63, 4, n, fun k j => (qpF v i k).getD j .any⟩
/-- A list of fractions in normal form. -/
abbrev nql (n : Nat) (v : Nat → Rat) : Cell := ql n fun i => ofR (v i)
set_option maxHeartbeats 4000000 in
theorem qpof_eq {n : Nat} {c : Nat → RawZ} {v : Nat → Rat} (hv : (fun i => ((vz c i : Int) : Rat)) = v) (h : wl n c) : FnOK Tryz.prog true 174 [.c (zl n c)] (.c (nql (tl (vz c) n) v)) := by
  have hn := h.1
  have h1 : ∀ i, i < n → FnOK Tryz.prog true 189 [.g (zr (c i))] (.g (nq (v i))) := fun i hi => by
    rw [← hv]
    exact qwhole_ok (h.2 i hi)
  have h2 : FnOK Tryz.prog true 75 [.c (nql n fun i => ((vz c i : Int) : Rat))] (.c (nql (tl (vz c) n) fun i => ((vz c i : Int) : Rat))) := by
    have := (qtrim_ok (c := fun i => ofR ((vz c i : Int) : Rat)) hn).weak (r := true)
    rwa [tb_tl (p := fun i => decide ((ofR ((vz c i : Int) : Rat)).num.ds.length = 0)) (v := vz c) (n := n) fun i _ => ⟨fun a => by
      have := zlen_eq_zero.1 (of_decide_eq_true a)
      simpa using this, fun a => decide_eq_true (zlen_eq_zero.2 (by simpa using a))⟩] at this
  rw [hv] at h2
  clear h hv
  generalize tl (vz c) n = N at *
  have hT : ∀ i, i = n → FnOK Tryz.prog true 75 [.c (.row 4 n fun k j => (qpF v i k).getD j .any)] (.c (nql N v)) := fun i e => arg_ok h2 fun D w vs h => by
    match vs, h with
    | [v1], ⟨h1, _⟩ => exact ⟨subRowG rfl (fun k j hk hj => by rw [e]; exact qp_all hk j) D w v1 h1, trivial⟩
  refine fn_ok (E := E1) E1_ok Tryz.func174 rfl mixed (by kernel_rfl) (by kernel_rfl) ?_
  conv => whnf
  refine ⟨by omega, Int.le_refl _, by omega, by show (64 : Int) * n ≤ 281474976710656; omega, ?_⟩
  conv => whnf
  refine loop_ints (fun i : Nat => gst [(3, .c (.gs 0 0)), (9, .c (zl n c)), (10, .c (.int .i64 n)), (11, .c (.int .i64 i))] [gqp n v i]) (fun i => n - i) (fun i => i ≤ n) 0 rfl (Weak.gen [some 0] rfl ⟨⟨_, rfl, rfl, rfl, by show Int.toNat n = n; omega, rfl, fun k j hk hj => ?_⟩, trivial⟩ ⟨⟨_, rfl, rfl, rfl⟩, .inl ⟨_, _, rfl, rfl, fun _ _ _ _ => rfl⟩, ⟨_, rfl, rfl⟩, ⟨_, rfl, rfl⟩, trivial⟩) (Nat.zero_le _) fun i hi => ?_
  · exact regE (congrArg (fun l => l.getD j .any) (qp_zero v k).symm) (qp_clos k j)
  conv => whnf
  refine bcase (fun (h : decide ((i : Int) < n) = true) => ?_) fun (h : decide ((i : Int) < n) = false) => ?_
  · have h := of_decide_eq_true h
    have g1 := h1 i (by omega)
    conv => whnf
    refine ⟨by omega, by omega, ?_⟩
    conv => whnf
    refine ⟨_, g1, ?_⟩
    conv => whnf
    refine ⟨by omega, by show (i : Int) < (n : Int); omega, ?_⟩
    conv => whnf
    refine ⟨i64 (by omega) (by omega), ?_⟩
    conv => whnf
    refine ⟨i + 1, by omega, Weak.gen [some 0] rfl ⟨⟨_, rfl, rfl, rfl, rfl, rfl, fun j k hj hk => regE ?_ (qp_clos j k)⟩, trivial⟩ ⟨⟨_, rfl, rfl, rfl⟩, .inl ⟨_, _, rfl, rfl, fun _ _ _ _ => rfl⟩, ⟨_, rfl, rfl⟩, ⟨_, rfl, rfl⟩, trivial⟩, by omega⟩
    exact updG (sz := 4) (g := qpF v i) (g' := qpF v (i + 1)) (l := nq (v i)) rfl hk (qp_next v i j)
  · have h := of_decide_eq_false h
    have g := hT i (by omega)
    conv => whnf
    refine .inr ⟨fun k j _ _ => qp_clos k j, ?_⟩
    conv => whnf
    refine ⟨_, g, ?_⟩
    conv => whnf
    exact ⟨rfl, Sub.refl _⟩
theorem qpof_ok {n : Nat} {c : Nat → RawZ} (h : wl n c) : FnOK Tryz.prog true 174 [.c (zl n c)] (.c (nql (tl (vz c) n) fun i => ((vz c i : Int) : Rat))) := qpof_eq rfl h
set_option maxHeartbeats 4000000 in
theorem qcmp_ok {q p : RawR} {L L' : Nat} (h : q.Fit L) (h' : p.Fit L') (h0 : 1 ≤ L') (hL : L + L' + 4 ≤ LIM) {K : Nat} (hf : qlen (q.val - p.val) ≤ K) (hK : K + 3 ≤ LIM) : FnOK Tryz.prog true 176 [.g (rr q), .g (rr p)] (.c (.int .i64 (q.val - p.val).num.sign)) := by
  have h1 := qsub_ok h h' h0 (by omega)
  have h2 := qsign_ok (q := ofR (q.val - p.val)) (ofR_fit hf) hK
  rw [ofR_val] at h2
  refine fn_ok (E := E1) E1_ok Tryz.func176 rfl mixed (by kernel_rfl) (by kernel_rfl) ?_
  conv => whnf
  refine ⟨_, h1, ?_⟩
  conv => whnf
  refine ⟨_, h2, ?_⟩
  conv => whnf
  exact ⟨rfl, Sub.refl _⟩
theorem qlen_int {x : Int} {L : Nat} (h : zlen x ≤ L) (h1 : 1 ≤ L) : qlen (x : Rat) ≤ L := by
  have z1 : zlen 1 = 1 := rfl
  unfold qlen
  rw [show ((x : Rat).num) = x by simp, show (((x : Rat).den : Nat) : Int) = 1 by simp]
  omega
/-- A normal fraction compared with 1. -/
theorem qcmp_one {x : Int} (h : zlen x ≤ 1048576) : FnOK Tryz.prog true 176 [.g (nq (x : Rat)), .g (nq ((1 : Int) : Rat))] (.c (.int .i64 (x - 1).sign)) := by
  have z1 : zlen 1 = 1 := rfl
  have h1 : qlen ((x : Rat) - ((1 : Int) : Rat)) ≤ 1048577 := by
    rw [← Rat.intCast_sub]
    refine qlen_int ?_ (by decide)
    have := zlen_add x (-1)
    rw [zlen_neg] at this
    rw [Int.sub_eq_add_neg]
    omega
  have := qcmp_ok (q := ofR (x : Rat)) (p := ofR ((1 : Int) : Rat)) (ofR_fit (qlen_int h (by decide))) (ofR_fit (qlen_int (x := 1) (L := 1) (by omega) (by decide))) (by decide) (by decide) (K := 1048577) (by rw [ofR_val, ofR_val]; exact h1) (by decide)
  rw [ofR_val, ofR_val, ← Rat.intCast_sub, Rat.num_intCast] at this
  exact this
/-- What is refused: a list that is no field's form. -/
theorem not_formed {n : Nat} {v : Nat → Int} (h : decide (formed n v) = false) (h1 : ¬ (((tl v n : Nat) : Int) - 1 < 1)) (h2 : ¬ ((12 : Int) < ((tl v n : Nat) : Int) - 1)) : v (((tl v n : Nat) : Int) - 1).toNat ≠ 1 := fun e => by
  have h := of_decide_eq_false h
  refine h ⟨by omega, by omega, ?_⟩
  have h3 := tl_le v n
  unfold ldc co
  rw [if_pos ⟨by omega, by omega⟩]
  exact e
set_option maxHeartbeats 4000000 in
theorem open_bad {n : Nat} {c : Nat → RawZ} (h : wl n c) (hf : decide (formed n (vz c)) = false) : FnOK Tryz.prog true 154 [.g [zl n c]] (.t2 (.c .any) (.c (.int .i64 3))) := by
  have h1 := znormal_ok h
  have hw : wl (tl (vz c) n) fun i => ofZ (vz c i) := ⟨Nat.le_trans (tl_le _ _) h.1, fun i hi => wr_nz (Nat.le_trans (wr_len (h.2 i (Nat.lt_of_lt_of_le hi (tl_le _ _)))) (h.2 i (Nat.lt_of_lt_of_le hi (tl_le _ _))).2)⟩
  have h2 := qpof_ok hw
  have e1 : vz (fun i => ofZ (vz c i)) = vz c := funext fun i => ofZ_val _
  rw [e1, tl_tl] at h2
  have h3 := qof_ok (n := 1) (by decide) (by decide)
  have hn := tl_le (vz c) n
  have h0 := h.1
  have h4 : 0 ≤ ((tl (vz c) n : Nat) : Int) - 1 → FnOK Tryz.prog true 176 [.g (nq ((vz c (((tl (vz c) n : Nat) : Int) - 1).toNat : Int) : Rat)), .g (nq ((1 : Int) : Rat))] (.c (.int .i64 (vz c (((tl (vz c) n : Nat) : Int) - 1).toNat - 1).sign)) := fun a => by
    have := h.2 (((tl (vz c) n : Nat) : Int) - 1).toNat (by omega)
    exact qcmp_one (Nat.le_trans (wr_len this) this.2)
  have h5 : ¬ (((tl (vz c) n : Nat) : Int) - 1 < 1) → ¬ ((12 : Int) < ((tl (vz c) n : Nat) : Int) - 1) → (!decide ((vz c (((tl (vz c) n : Nat) : Int) - 1).toNat - 1).sign = 0)) = true := fun a b => by
    have := not_formed hf a b
    have h : (vz c (((tl (vz c) n : Nat) : Int) - 1).toNat - 1).sign ≠ 0 := fun e => this (by have := Int.sign_eq_zero_iff_zero.1 e; omega)
    simpa using h
  clear hf hw e1 h
  generalize vz c = v at *
  generalize tl v n = N at *
  refine fn_ok (E := E1) E1_ok Tryz.func154 rfl mixed (by kernel_rfl) (by kernel_rfl) ?_
  conv => whnf
  refine ⟨_, h1, ?_⟩
  conv => whnf
  refine ⟨_, h2, ?_⟩
  conv => whnf
  refine ⟨i64 (by omega) (by omega), ?_⟩
  conv => whnf
  refine bcase (fun (a : gw false (decide (((N : Nat) : Int) - 1 < 1)) = true) => ?_) fun (a : gw false (decide (((N : Nat) : Int) - 1 < 1)) = false) => ?_
  · have a := of_decide_eq_false (gwf a)
    conv => whnf
    refine bcase (fun (b : gw false (decide ((12 : Int) < ((N : Nat) : Int) - 1)) = true) => ?_) fun (b : gw false (decide ((12 : Int) < ((N : Nat) : Int) - 1)) = false) => ?_
    · have b := of_decide_eq_false (gwf b)
      have g4 := h4 (by omega)
      have g5 := h5 a b
      conv => whnf
      refine ⟨by omega, by omega, ?_⟩
      conv => whnf
      refine ⟨_, h3, ?_⟩
      conv => whnf
      refine ⟨_, g4, ?_⟩
      conv => whnf
      refine bpos g5 ?_
      conv => whnf
      exact ⟨rfl, Sub.refl _⟩
    · conv => whnf
      exact ⟨rfl, Sub.refl _⟩
  · conv => whnf
    exact ⟨rfl, Sub.refl _⟩
end Rf
end Go.Proofs.YtigciplaoikcfaaGreat
/- Short lists of fractions. -/
namespace Go.Proofs.YtigciplaoikcfaaGreat
open Go.RowKit
namespace Rf
def okq (a : RawR) : Prop := a.num.ds.length ≤ 1 ∧ a.den.ds.length ≤ 1 ∧ qb a.val ≤ 10
def dgq (a : RawR) : Prop := Dg.ok a.num.ds ∧ Dg.ok a.den.ds
end Rf
end Go.Proofs.YtigciplaoikcfaaGreat
