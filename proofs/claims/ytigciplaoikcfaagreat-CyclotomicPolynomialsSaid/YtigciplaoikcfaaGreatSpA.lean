/- The contracts of package bigint in abstract words. -/
import Derived.Test.YtigciplaoikcfaaGreatNz
import Derived.Test.YtigciplaoikcfaaGreatInt
import Derived.Test.YtigciplaoikcfaaGreatTy
namespace Go.Proofs.YtigciplaoikcfaaGreat
open Go.RowKit
theorem dsC_dig {D : Nat → Prop} {w : World} {ρ : List Loc} {l : List Nat} {v : Value} (ho : Dg.ok l) (h : CRel D w ρ (dsC l) v) : ∃ A c, v = .slice A l.length c ∧ l.length ≤ c ∧ Dig w A l.length l := by
  obtain ⟨A, c, h1, h2, h3⟩ := h
  refine ⟨A, c, h1, h2, rfl, ho, fun hn => ?_⟩
  obtain ⟨b, o, hA, hb, _, hc⟩ := h3 hn
  refine ⟨b, o, hA, hb, fun i hi => ?_⟩
  obtain ⟨u, hu, hr⟩ := hc i 0 hi (by omega)
  have hr' : u = .int .u32 (l.getD i 0 : Nat) := hr
  rw [show o + (i * 1 + 0) = o + i by omega] at hu
  rw [hu, hr']
  simp [List.getD, hi]
theorem dig_dsC {D : Nat → Prop} {w : World} {ρ : List Loc} {l : List Nat} {A : Option Addr} {c : Nat} (h : Dig w A l.length l) (hc : l.length ≤ c) (hD : ∀ b o, 0 < l.length → A = some ⟨b, o, none⟩ → ¬ D b) : CRel D w ρ (dsC l) (.slice A l.length c) := by
  refine ⟨A, c, rfl, hc, fun hn => ?_⟩
  obtain ⟨b, o, hA, hb, hcell⟩ := h.2.2 hn
  refine ⟨b, o, hA, hb, hD b o hn hA, fun i j hi hj => ?_⟩
  have hj0 : j = 0 := by omega
  subst hj0
  refine ⟨_, by rw [show o + (i * 1 + 0) = o + i by omega]; exact hcell i hi, ?_⟩
  show Value.int .u32 _ = _
  simp [List.getD, hi]
theorem zr_rint {D : Nat → Prop} {w : World} {ρ : List Loc} {a : RawZ} {v : Value} (ho : Dg.ok a.ds) (h : VRel D w ρ (.g (zr a)) v) : RInt w v a.val a.ds.length := by
  obtain ⟨vs, rfl, h2⟩ := h
  match hv : vs.toList, h2 with
  | [x, y], h2 =>
    obtain ⟨h3, h4, _⟩ := h2
    obtain ⟨A, c, h5, h6, h7⟩ := dsC_dig ho h4
    have hvs : vs = #[x, y] := by rw [← Array.toList_inj]; simpa using hv
    rw [hvs, show x = .bool a.neg from h3, h5]
    exact ⟨a.neg, A, a.ds.length, c, a.ds, rfl, h7, h6, Nat.le_refl _, rfl⟩
  | [], h2 => exact h2.elim
  | [_], h2 => exact h2.2.elim
  | _ :: _ :: _ :: _, h2 => exact h2.2.2.elim
/-- Digits do not lie in a closed block, where none of those held digits. -/
theorem dig_free {D : Nat → Prop} {w w' : World} (hD : ∀ b, D b → b < w.heap.size) (hU : ∀ (b o : Nat) (d : Int), D b → w.cell? ⟨b, o, none⟩ ≠ some (.int .u32 d)) (hb : Below w.heap.size w w') {l : List Nat} {A : Option Addr} (h : Dig w' A l.length l) : ∀ b o, 0 < l.length → A = some ⟨b, o, none⟩ → ¬ D b := by
  intro b o hn hA hx
  obtain ⟨b', o', hA', _, hc⟩ := h.2.2 hn
  rw [hA] at hA'
  injection hA' with e
  injection e with e1 e2
  subst e1; subst e2
  have h1 := hc 0 hn
  rw [hb.cell (p := ⟨b, o + 0, none⟩) (hD b hx)] at h1
  exact hU b _ _ hx h1
theorem nint_nz {D : Nat → Prop} {w w' : World} (hD : ∀ b, D b → b < w.heap.size) (hU : ∀ (b o : Nat) (d : Int), D b → w.cell? ⟨b, o, none⟩ ≠ some (.int .u32 d)) (hb : Below w.heap.size w w') {v : Value} {x : Int} {L : Nat} (h : NInt w' v x L) : VRel D w' [] (.g (nz x)) v := by
  obtain ⟨neg, A, n, c, ds, rfl, hd, hc, _, hx, ht, hneg⟩ := h
  have hl := hd.len
  have hval : Dg.val ds = x.natAbs := by
    rw [hx]; unfold sgn; cases neg <;> simp
  have hds : ds = digs x.natAbs := digs_unique hd.ok ht hval
  have hn : neg = decide (x < 0) := by
    cases neg with
    | false => rw [hx]; simp [sgn]
    | true =>
      have h0 := hneg rfl
      have hp : 0 < Dg.val ds := by
        rcases Nat.eq_zero_or_pos (Dg.val ds) with e | e
        · rw [(Dg.val_eq_zero ht).1 e] at hl; simp at hl; omega
        · exact e
      rw [hx]; simp [sgn]; omega
  refine ⟨#[.bool neg, .slice A n c], rfl, ?_, ?_, trivial⟩
  · show Value.bool neg = .bool (decide (x < 0)); rw [hn]
  · show CRel D w' [] (dsC (digs x.natAbs)) (.slice A n c)
    rw [← hds]
    subst hl
    exact dig_dsC hd hc (dig_free hD hU hb hd)
/-- A contract over integers, in these words. -/
theorem fnok_z1 {f : FuncId} (hbd : hasBody Tryz.prog f = true) {a : RawZ} {X : V} (ho : Dg.ok a.ds) (h : ∀ (v : Value) (w : World) (D : Nat → Prop), (∀ b, D b → b < w.heap.size) → (∀ (b o : Nat) (d : Int), D b → w.cell? ⟨b, o, none⟩ ≠ some (.int .u32 d)) → RInt w v a.val a.ds.length → Calls Tryz.prog f #[v] w fun e w' => ∃ v', e = .returned v' ∧ VRel D w' [] X v' ∧ Below w.heap.size w w') : FnOK Tryz.prog true f [.g (zr a)] X := by
  refine ⟨hbd, ?_⟩
  intro D w vs hD hU hargs
  match vs, hargs with
  | [v], hargs => exact h v w D hD (hU rfl) (zr_rint ho hargs.1)
  | [], hargs => exact hargs.elim
  | _ :: _ :: _, hargs => exact hargs.2.elim
theorem fnok_z2 {f : FuncId} (hbd : hasBody Tryz.prog f = true) {a b : RawZ} {X : V} (ho : Dg.ok a.ds) (ho' : Dg.ok b.ds) (h : ∀ (v v2 : Value) (w : World) (D : Nat → Prop), (∀ b, D b → b < w.heap.size) → (∀ (b o : Nat) (d : Int), D b → w.cell? ⟨b, o, none⟩ ≠ some (.int .u32 d)) → RInt w v a.val a.ds.length → RInt w v2 b.val b.ds.length → Calls Tryz.prog f #[v, v2] w fun e w' => ∃ v', e = .returned v' ∧ VRel D w' [] X v' ∧ Below w.heap.size w w') : FnOK Tryz.prog true f [.g (zr a), .g (zr b)] X := by
  refine ⟨hbd, ?_⟩
  intro D w vs hD hU hargs
  match vs, hargs with
  | [v, v2], hargs => exact h v v2 w D hD (hU rfl) (zr_rint ho hargs.1) (zr_rint ho' hargs.2.1)
  | [], hargs => exact hargs.elim
  | [_], hargs => exact hargs.2.elim
  | _ :: _ :: _ :: _, hargs => exact hargs.2.2.elim
theorem mul_ok {a b : RawZ} (ha : Dg.ok a.ds) (hb : Dg.ok b.ds) (hL : a.ds.length + b.ds.length ≤ LIM) : FnOK Tryz.prog true 115 [.g (zr a), .g (zr b)] (.g (nz (a.val * b.val))) :=
  fnok_z2 (by kernel_rfl) ha hb fun v v2 w _ hD hU h1 h2 => (int_mul_any v v2 _ _ _ _ w h1 h2 hL).mono fun _ _ ⟨v', e, h3, h4⟩ => ⟨v', e, nint_nz hD hU h4 h3, h4⟩
theorem add_ok {a b : RawZ} (ha : Dg.ok a.ds) (hb : Dg.ok b.ds) (h1 : a.ds.length ≤ LIM) (h2 : b.ds.length ≤ LIM) : FnOK Tryz.prog true 123 [.g (zr a), .g (zr b)] (.g (nz (a.val + b.val))) :=
  fnok_z2 (by kernel_rfl) ha hb fun v v2 w _ hD hU g1 g2 => (int_add_any v v2 _ _ _ _ w g1 g2 h1 h2).mono fun _ _ ⟨v', e, h3, h4⟩ => ⟨v', e, nint_nz hD hU h4 h3, h4⟩
theorem gcd_ok {a b : RawZ} (ha : Dg.ok a.ds) (hb : Dg.ok b.ds) (h1 : a.ds.length + 1 ≤ LIM) (h2 : b.ds.length + 1 ≤ LIM) : FnOK Tryz.prog true 145 [.g (zr a), .g (zr b)] (.g (nz (Nat.gcd a.val.natAbs b.val.natAbs : Nat))) :=
  fnok_z2 (by kernel_rfl) ha hb fun v v2 w _ hD hU g1 g2 => (int_gcd_any v v2 _ _ _ _ w g1 g2 h1 h2).mono fun _ _ ⟨v', e, h3, h4⟩ => ⟨v', e, nint_nz hD hU h4 h3, h4⟩
theorem neg_ok {a : RawZ} (ha : Dg.ok a.ds) (hL : a.ds.length ≤ LIM) : FnOK Tryz.prog true 117 [.g (zr a)] (.g (nz (-a.val))) :=
  fnok_z1 (by kernel_rfl) ha fun v w _ hD hU h1 => (int_neg_any v _ _ w h1 hL).mono fun _ _ ⟨v', e, h3, h4⟩ => ⟨v', e, nint_nz hD hU h4 h3, h4⟩
theorem normal_ok {a : RawZ} (ha : Dg.ok a.ds) (hL : a.ds.length ≤ LIM) : FnOK Tryz.prog true 144 [.g (zr a)] (.g (nz a.val)) :=
  fnok_z1 (by kernel_rfl) ha fun v w _ hD hU h1 => (int_normal_any v _ _ w h1 hL).mono fun _ _ ⟨v', e, h3, h4⟩ => ⟨v', e, nint_nz hD hU h4 h3, h4⟩
theorem sign_ok {a : RawZ} (ha : Dg.ok a.ds) (hL : a.ds.length ≤ LIM) : FnOK Tryz.prog true 121 [.g (zr a)] (.c (.int .i64 a.val.sign)) :=
  fnok_z1 (by kernel_rfl) ha fun v w _ _ _ h1 => (int_sign_any v _ _ w h1 hL).mono fun _ _ ⟨e, h4⟩ => ⟨_, e, rfl, h4⟩
theorem of_ok {x : Int} (h0 : -9223372036854775808 ≤ x) (h1 : x ≤ 9223372036854775807) : FnOK Tryz.prog true 52 [.c (.int .i64 x)] (.g (nz x)) := by
  refine ⟨by kernel_rfl, ?_⟩
  intro D w vs hD hU hargs
  match vs, hargs with
  | [v], hargs =>
    rw [show v = .int .i64 x from hargs.1]
    exact (int_of_any x w h0 h1).mono fun _ _ ⟨v', e, h3, h4⟩ => ⟨v', e, nint_nz hD (hU rfl) h4 h3, h4⟩
  | [], hargs => exact hargs.elim
  | _ :: _ :: _, hargs => exact hargs.2.elim
end Go.Proofs.YtigciplaoikcfaaGreat
/- Types, and the functions DivMod and Exact of package bigint in abstract words. -/
namespace Go.Proofs.YtigciplaoikcfaaGreat
open Go.RowKit
theorem divmod_ok {a b : RawZ} (ha : Dg.ok a.ds) (hb : Dg.ok b.ds) (h1 : a.ds.length + 2 ≤ LIM) (h2 : b.ds.length + 1 ≤ LIM) (h0 : b.val ≠ 0) : FnOK Tryz.prog true 170 [.g (zr a), .g (zr b)] (.t3 (.g (nz (a.val / b.val))) (.g (nz (a.val % b.val))) (.c (.int .i64 0))) :=
  fnok_z2 (by kernel_rfl) ha hb fun v v2 w _ hD hU g1 g2 => (divMod_any v v2 _ _ _ _ w g1 g2 h1 h2 h0).mono fun _ _ ⟨q, r, e, h3, h4, h5⟩ => ⟨_, e, ⟨q, r, _, rfl, nint_nz hD hU h5 h3, nint_nz hD hU h5 h4, rfl⟩, h5⟩
set_option maxHeartbeats 1000000 in
theorem exact_ok {a b : RawZ} (ha : Dg.ok a.ds) (hb : Dg.ok b.ds) (h1 : a.ds.length + 2 ≤ LIM) (h2 : b.ds.length + 1 ≤ LIM) (h0 : b.val ≠ 0) (hd : a.val % b.val = 0) : FnOK Tryz.prog true 146 [.g (zr a), .g (zr b)] (.t2 (.g (nz (a.val / b.val))) (.c (.int .i64 0))) := by
  refine fn_ok (E := E1) E1_ok Tryz.func146 rfl mixed (by kernel_rfl) (by kernel_rfl) ?_
  conv => whnf
  refine ⟨_, divmod_ok (a := a) (b := b) ha hb h1 h2 h0, ?_⟩
  conv => whnf
  refine bcase (fun h => ?_) fun h => ?_
  · have h' : decide ((zlen (a.val % b.val) : Int) > 0) = true := h
    rw [hd] at h'; exact absurd h' (by decide)
  conv => whnf
  refine ⟨rfl, ?_⟩
  exact Sub.refl _
theorem neg_nz (x : Int) (h : zlen x ≤ LIM) : FnOK Tryz.prog true 117 [.g (nz x)] (.g (nz (-x))) := by
  have := neg_ok (a := ofZ x) (ofZ_ok x) h
  rwa [ofZ_val] at this
theorem sign_nz (x : Int) (h : zlen x ≤ LIM) : FnOK Tryz.prog true 121 [.g (nz x)] (.c (.int .i64 x.sign)) := by
  have := sign_ok (a := ofZ x) (ofZ_ok x) h
  rwa [ofZ_val] at this
theorem add_nz (x y : Int) (h1 : zlen x ≤ LIM) (h2 : zlen y ≤ LIM) : FnOK Tryz.prog true 123 [.g (nz x), .g (nz y)] (.g (nz (x + y))) := by
  have := add_ok (a := ofZ x) (b := ofZ y) (ofZ_ok x) (ofZ_ok y) h1 h2
  rwa [ofZ_val, ofZ_val] at this
theorem mul_nz (x y : Int) (h : zlen x + zlen y ≤ LIM) : FnOK Tryz.prog true 115 [.g (nz x), .g (nz y)] (.g (nz (x * y))) := by
  have := mul_ok (a := ofZ x) (b := ofZ y) (ofZ_ok x) (ofZ_ok y) h
  rwa [ofZ_val, ofZ_val] at this
theorem gcd_nz (x y : Int) (h1 : zlen x + 1 ≤ LIM) (h2 : zlen y + 1 ≤ LIM) : FnOK Tryz.prog true 145 [.g (nz x), .g (nz y)] (.g (nz (Nat.gcd x.natAbs y.natAbs : Nat))) := by
  have := gcd_ok (a := ofZ x) (b := ofZ y) (ofZ_ok x) (ofZ_ok y) h1 h2
  rwa [ofZ_val, ofZ_val] at this
theorem exact_nz (x y : Int) (h1 : zlen x + 2 ≤ LIM) (h2 : zlen y + 1 ≤ LIM) (h0 : y ≠ 0) (hd : x % y = 0) : FnOK Tryz.prog true 146 [.g (nz x), .g (nz y)] (.t2 (.g (nz (x / y))) (.c (.int .i64 0))) := by
  have := exact_ok (a := ofZ x) (b := ofZ y) (ofZ_ok x) (ofZ_ok y) h1 h2 (by rw [ofZ_val]; exact h0) (by rw [ofZ_val, ofZ_val]; exact hd)
  rwa [ofZ_val, ofZ_val] at this
theorem normal_nz (x : Int) (h : zlen x ≤ LIM) : FnOK Tryz.prog true 144 [.g (nz x)] (.g (nz x)) := by
  have := normal_ok (a := ofZ x) (ofZ_ok x) h
  rwa [ofZ_val] at this
end Go.Proofs.YtigciplaoikcfaaGreat
