/- Runs whose results are told cell by cell. -/
import Derived.Test.YtigciplaoikcfaaGreatRunF
namespace Go.Proofs.YtigciplaoikcfaaGreat
open Go.RowKit
/-- Whether the one cell reads as the other, as far as a run can tell. -/
def sameC : Cell → Cell → Bool
  | .bool a, .bool b => a == b
  | .int k a, .int l b => decide (k = l) && decide (a = b)
  | .nil, .nil => true
  | .nil, .row _ n _ => n == 0
  | .row sz n f, .row sz' n' f' => sz == sz' && (n == n' && ((List.range n).all fun i => (List.range sz).all fun j => sameC (f i j) (f' i j)))
  | _, _ => false
theorem sameC_ok (a : Cell) : ∀ (b : Cell), sameC a b = true → ∀ (D : Nat → Prop) (w : World) (v : Value), CRel D w [] a v → CRel D w [] b v := by
  induction a with
  | bool a =>
    intro b h D w v hv
    cases b with
    | bool b => simp [sameC] at h; subst h; exact hv
    | _ => simp [sameC] at h
  | int k a =>
    intro b h D w v hv
    cases b with
    | int l b => simp [sameC] at h; obtain ⟨rfl, rfl⟩ := h; exact hv
    | _ => simp [sameC] at h
  | nil =>
    intro b h D w v hv
    cases b with
    | nil => exact hv
    | row sz n f =>
      have h : n = 0 := by simpa [sameC] using h
      subst h
      have hv : v = .slice none 0 0 := hv
      exact ⟨none, 0, hv, Nat.le_refl _, fun h => absurd h (Nat.lt_irrefl 0)⟩
    | _ => simp [sameC] at h
  | row sz n f ih =>
    intro b h D w v hv
    cases b with
    | row sz' n' f' =>
      simp only [sameC, Bool.and_eq_true, beq_iff_eq, List.all_eq_true, List.mem_range] at h
      obtain ⟨rfl, rfl, h⟩ := h
      obtain ⟨A, c, e1, e2, e3⟩ := hv
      refine ⟨A, c, e1, e2, fun hn => ?_⟩
      obtain ⟨b, o, g1, g2, g3, g4⟩ := e3 hn
      refine ⟨b, o, g1, g2, g3, fun i j hi hj => ?_⟩
      obtain ⟨u, hu, hr⟩ := g4 i j hi hj
      exact ⟨u, hu, ih i j (f' i j) (h i hi j hj) D w u hr⟩
    | _ => simp [sameC] at h
  | _ => intro b h; cases b <;> simp [sameC] at h
def sameL : List Cell → List Cell → Bool
  | [], [] => true
  | a :: l, b :: l' => sameC a b && sameL l l'
  | _, _ => false
def sameV : V → V → Bool
  | .c a, .c b => sameC a b
  | .g l, .g l' => sameL l l'
  | .t2 a b, .t2 c d => sameV a c && sameV b d
  | _, _ => false
theorem sameL_ok : ∀ (l l' : List Cell), sameL l l' = true → ∀ (D : Nat → Prop) (w : World) (vs : List Value), CRels D w [] l vs → CRels D w [] l' vs
  | [], [], _, _, _, _, hv => hv
  | a :: l, b :: l', h, D, w, v :: vs, hv => by
    simp only [sameL, Bool.and_eq_true] at h
    exact ⟨sameC_ok a b h.1 D w v hv.1, sameL_ok l l' h.2 D w vs hv.2⟩
  | [], _ :: _, h, _, _, _, _ => by simp [sameL] at h
  | _ :: _, [], h, _, _, _, _ => by simp [sameL] at h
  | _ :: _, _ :: _, _, _, _, [], hv => hv.elim
theorem sameV_ok : ∀ (a b : V), sameV a b = true → ∀ (D : Nat → Prop) (w : World) (v : Value), VRel D w [] a v → VRel D w [] b v
  | .c a, .c b, h, D, w, v, hv => sameC_ok a b h D w v hv
  | .g l, .g l', h, D, w, v, hv => by
    obtain ⟨vs, h1, h2⟩ := hv
    exact ⟨vs, h1, sameL_ok l l' h D w _ h2⟩
  | .t2 a b, .t2 c d, h, D, w, v, hv => by
    simp only [sameV, Bool.and_eq_true] at h
    obtain ⟨x, y, h1, h2, h3⟩ := hv
    exact ⟨x, y, h1, sameV_ok a c h.1 D w x h2, sameV_ok b d h.2 D w y h3⟩
  | .c _, .g _, h, _, _, _, _ => by simp [sameV] at h
  | .c _, .t2 .., h, _, _, _, _ => by simp [sameV] at h
  | .c _, .t3 .., h, _, _, _, _ => by simp [sameV] at h
  | .c _, .t4 .., h, _, _, _, _ => by simp [sameV] at h
  | .g _, .c _, h, _, _, _, _ => by simp [sameV] at h
  | .g _, .t2 .., h, _, _, _, _ => by simp [sameV] at h
  | .g _, .t3 .., h, _, _, _, _ => by simp [sameV] at h
  | .g _, .t4 .., h, _, _, _, _ => by simp [sameV] at h
  | .t2 .., .c _, h, _, _, _, _ => by simp [sameV] at h
  | .t2 .., .g _, h, _, _, _, _ => by simp [sameV] at h
  | .t2 .., .t3 .., h, _, _, _, _ => by simp [sameV] at h
  | .t2 .., .t4 .., h, _, _, _, _ => by simp [sameV] at h
  | .t3 .., _, h, _, _, _, _ => by simp [sameV] at h
  | .t4 .., _, h, _, _, _, _ => by simp [sameV] at h
/-- A run, its result told by another value. -/
theorem run_same {inl : FuncId → Bool} {f : FuncId} {args : List V} {Y : V} (h : (pureX orcC (runX ER orcC okF inl 1000 40) f args).map (fun X => sameV X Y) = some true) : FnOK Tryz.prog false f args Y := by
  cases hx : pureX orcC (runX ER orcC okF inl 1000 40) f args with
  | none => rw [hx] at h; cases h
  | some X =>
    rw [hx] at h
    have h : sameV X Y = true := by simpa using h
    have hf := run_call orcC_ok hx
    refine ⟨hf.1, fun D w vs h1 h2 h3 => (hf.2 D w vs h1 h2 h3).mono ?_⟩
    rintro e w' ⟨v, h4, h5, h6⟩
    exact ⟨v, h4, sameV_ok X Y h D w' v h5, h6⟩
end Go.Proofs.YtigciplaoikcfaaGreat
