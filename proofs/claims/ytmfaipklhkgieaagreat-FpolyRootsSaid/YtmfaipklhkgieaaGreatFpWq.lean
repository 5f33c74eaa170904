/- The argument of the statements about polynomials modulo a prime, opened with all its lists. -/
import Derived.Test.YtmfaipklhkgieaaGreatFpPq
import Derived.Test.YtmfaipklhkgieaaGreatFpW
namespace Go.Proofs.YtmfaipklhkgieaaGreat
open Go.ChangeShapes Go.WideShapes Go.ChangeAt Go.RowKit
section
variable {H : Type} {enc : TypeId × Value → H} {P : Program} {w : World} {sp : Nat → Bool} {held : Bool}
/-- A slice of digits. -/
theorem cell_digits {t e fuel : Nat} {cs : List Value} {x : DataW H × List MemPlace} (ht : P.underlying t = some (.slice e)) (hk : P.cellsOf e = 1) (he : P.underlying e = some (.int .u32)) (h : DataW.trod enc P w 0 sp held fuel t cs = some x) : ∃ (v : Value) (n : Nat) (a : Nat → Int), cs = [v] ∧ n ≤ maxLen ∧ CRel (fun _ => False) w [] (.row 1 n fun i _ => .int .u32 (a i)) v ∧ ∀ i : Nat, 0 ≤ a i ∧ a i < 4294967296 := by
  rcases DataW.trod_slice ht h with ⟨rfl, _⟩ | ⟨a, len, cap, elems, rest, n, _, rfl, _, _, hl, hm, hlen, hel, _⟩
  · exact ⟨_, 0, fun _ => 0, rfl, Nat.zero_le _, ⟨none, 0, rfl, Nat.le_refl _, fun h => absurd h (Nat.lt_irrefl 0)⟩, fun _ => ⟨Int.le_refl _, show (0 : Int) < 4294967296 by decide⟩⟩
  · have get : ∀ i, i < len → ∃ k, w.cells? 0 (a.add (i * 1)) 1 = some [.int .u32 k] ∧ 0 ≤ k ∧ k < 4294967296 := by
      intro i hi
      have := hel i hi
      rw [hk, List.getElem?_eq_getElem (by omega), Option.bind_eq_some_iff] at this
      obtain ⟨cs', h1, h2⟩ := this
      obtain ⟨k, e1, hw⟩ := cell_int he h2
      have hw : 0 ≤ k ∧ k < 4294967296 := by
        simp [Lit.wf] at hw
        have h1 : (IntKind.u32.min : Int) = 0 := by decide
        have h2 : (IntKind.u32.max : Int) = 4294967295 := by decide
        omega
      exact ⟨k, by rw [h1, e1], hw⟩
    obtain ⟨f, get'⟩ : ∃ f : Nat → Int, (∀ i, i < len → w.cells? 0 (a.add (i * 1)) 1 = some [.int .u32 (f i)]) ∧ ∀ i, 0 ≤ f i ∧ f i < 4294967296 :=
      ⟨fun i => if h : i < len then (get i h).choose else 0, fun i hi => by
        show w.cells? 0 (a.add (i * 1)) 1 = some [.int .u32 (if h : i < len then (get i h).choose else 0)]
        rw [dif_pos hi]; exact (get i hi).choose_spec.1, fun i => by
        show 0 ≤ (if h : i < len then (get i h).choose else 0) ∧ (if h : i < len then (get i h).choose else 0) < 4294967296
        split
        · rename_i hi; exact (get i hi).choose_spec.2
        · exact ⟨Int.le_refl _, by decide⟩⟩
    obtain ⟨get', hr⟩ := get'
    refine ⟨_, len, f, rfl, by omega, ⟨_, cap, rfl, hl, fun hn => ?_⟩, hr⟩
    obtain ⟨b, o, spt⟩ := a
    have hs : spt = none ∧ b < w.heap.size := by
      obtain ⟨_, h2, h3⟩ := World.cells?_some (get' 0 hn)
      have h4 := h3 0 (by decide)
      rw [Nat.zero_mul, Addr.add, if_pos rfl, Addr.add, if_pos rfl, List.getElem?_eq_getElem (by simp)] at h4
      unfold World.cell? at h4
      split at h4
      · rename_i hh
        refine ⟨?_, (Array.getElem?_eq_some_iff.1 hh).1⟩
        split at h4
        · cases h4
        · rename_i hs; simpa using hs
      · cases h4
    obtain ⟨rfl, hb⟩ := hs
    refine ⟨b, o, rfl, hb, id, fun i j hi hj => ?_⟩
    obtain rfl : j = 0 := by omega
    obtain ⟨_, h2, h3⟩ := World.cells?_some (get' i hi)
    have h4 := h3 0 (by decide)
    rw [add_plain, add_plain, List.getElem?_eq_getElem (by simp)] at h4
    exact ⟨_, by rw [show o + (i * 1 + 0) = o + i * 1 + 0 by omega]; exact h4, rfl⟩
end
section
variable {H : Type} {enc : TypeId × Value → H} {w : World} {sp : Nat → Bool} {held : Bool}
set_option maxRecDepth 100000 in
theorem open_polysQ {r : Reach} {b0 : Nat} {v : Value} {d : DataW H} {ps : List MemPlace} (hval : Value.okWide Tryz.prog w r b0 28 v) (hd : DataW.Trod enc Tryz.prog w 0 sp held 28 v d ps) : ∃ (p x : Int) (n m l q : Nat) (a c h dd : Nat → Int) (s : Bool), VRel (fun _ => False) w [] (Fp.PQ p n m l q a c h dd s x) v ∧ ∀ i, 0 ≤ dd i ∧ dd i < 4294967296 := by
  obtain ⟨cs, rfl⟩ := okWide_agg Tryz.underlying28 hval
  obtain ⟨fuel, hf⟩ := hd
  obtain ⟨y0, y1, y2, y3, y4, y5, n, hl, h0, h1, h2, h3, h4, h5⟩ := trod_struct6 Tryz.underlying28 hf
  simp only [cellsInt1, cellsFPoly, cellsBig] at h0 h1 h2 h3 h4 h5
  obtain ⟨z0, z1, n', hl', k0, k1⟩ := trod_struct2 Tryz.underlying26 h4
  simp only [cellsBool, cellsMag] at k0 k1
  obtain ⟨p, e0, _⟩ := cell_int Tryz.underlying3 h0
  obtain ⟨u1, m1, a1, e1, _, g1⟩ := cell_ints Tryz.underlying23 cellsInt1 Tryz.underlying3 h1
  obtain ⟨u2, m2, a2, e2, _, g2⟩ := cell_ints Tryz.underlying23 cellsInt1 Tryz.underlying3 h2
  obtain ⟨u3, m3, a3, e3, _, g3⟩ := cell_ints Tryz.underlying23 cellsInt1 Tryz.underlying3 h3
  obtain ⟨s, e4, _⟩ := DataW.trod_bool Tryz.underlying4 k0
  obtain ⟨u5, m5, a5, e5, _, g5, hr5⟩ := cell_digits Tryz.underlying24 cellsU32 Tryz.underlying57 k1
  obtain ⟨x, e6, _⟩ := cell_int Tryz.underlying3 h5
  refine ⟨p, x, m1, m2, m3, m5, a1, a2, a3, a5, s, ⟨cs, rfl, ?_⟩, hr5⟩
  have hl : cs.toList.length = 7 := by rw [← cellsPolys]; exact hl
  change (cs.toList.drop 0).take 1 = _ at e0
  change (cs.toList.drop 1).take 1 = _ at e1
  change (cs.toList.drop 2).take 1 = _ at e2
  change (cs.toList.drop 3).take 1 = _ at e3
  change (((cs.toList.drop 4).take 2).drop 0).take 1 = _ at e4
  change (((cs.toList.drop 4).take 2).drop 1).take 1 = _ at e5
  change (cs.toList.drop 6).take 1 = _ at e6
  match hcs : cs.toList, hl with
  | [x0, x1, x2, x3, x4, x5, x6], _ =>
    rw [hcs] at e0 e1 e2 e3 e4 e5 e6
    simp at e0 e1 e2 e3 e4 e5 e6
    subst e0; subst e1; subst e2; subst e3; subst e4; subst e5; subst e6
    exact ⟨rfl, g1, g2, g3, rfl, g5, rfl, trivial⟩
end
end Go.Proofs.YtmfaipklhkgieaaGreat
