/- The law FpolyDivides: its call, under what its argument reads as. -/
import Derived.Test.YtmfaipklhkgieaaGreatFpL
import Derived.Test.YtmfaipklhkgieaaGreatOpen
namespace Go.Proofs.YtmfaipklhkgieaaGreat
open Go.ChangeShapes Go.WideShapes Go.ChangeAt Go.RowKit
section
variable {H : Type} {enc : TypeId × Value → H} {P : Program} {w : World} {sp : Nat → Bool} {held : Bool}
/-- A slice of machine integers. -/
theorem cell_ints {t e fuel : Nat} {cs : List Value} {x : DataW H × List MemPlace} (ht : P.underlying t = some (.slice e)) (hk : P.cellsOf e = 1) (he : P.underlying e = some (.int .i64)) (h : DataW.trod enc P w 0 sp held fuel t cs = some x) : ∃ v n a, cs = [v] ∧ n ≤ maxLen ∧ CRel (fun _ => False) w [] (il n a) v := by
  rcases DataW.trod_slice ht h with ⟨rfl, _⟩ | ⟨a, len, cap, elems, rest, n, _, rfl, _, _, hl, hm, hlen, hel, _⟩
  · exact ⟨_, 0, fun _ => 0, rfl, Nat.zero_le _, none, 0, rfl, Nat.le_refl _, fun h => absurd h (Nat.lt_irrefl 0)⟩
  · have get : ∀ i, i < len → ∃ k, w.cells? 0 (a.add (i * 1)) 1 = some [.int .i64 k] := by
      intro i hi
      have := hel i hi
      rw [hk, List.getElem?_eq_getElem (by omega), Option.bind_eq_some_iff] at this
      obtain ⟨cs', h1, h2⟩ := this
      obtain ⟨k, e1, _⟩ := cell_int he h2
      exact ⟨k, by rw [h1, e1]⟩
    obtain ⟨f, get'⟩ : ∃ f : Nat → Int, ∀ i, i < len → w.cells? 0 (a.add (i * 1)) 1 = some [.int .i64 (f i)] :=
      ⟨fun i => if h : i < len then (get i h).choose else 0, fun i hi => by
        show w.cells? 0 (a.add (i * 1)) 1 = some [.int .i64 (if h : i < len then (get i h).choose else 0)]
        rw [dif_pos hi]; exact (get i hi).choose_spec⟩
    refine ⟨_, len, f, rfl, by omega, _, cap, rfl, hl, fun hn => ?_⟩
    obtain ⟨b, o, spt⟩ := a
    have hs : spt = none ∧ b < w.heap.size := by
      obtain ⟨_, h2, h3⟩ := World.cells?_some (get' 0 hn)
      have h4 := h3 0 (by decide)
      rw [Nat.zero_mul, Addr.add, if_pos rfl, Addr.add, if_pos rfl, List.getElem?_eq_getElem (by simp)] at h4
      unfold World.cell? at h4
      split at h4
      · rename_i hh
        refine ⟨?_, (Array.getElem?_eq_some_iff.1 hh).1⟩
        split at h4
        · cases h4
        · rename_i hs; simpa using hs
      · cases h4
    obtain ⟨rfl, hb⟩ := hs
    refine ⟨b, o, rfl, hb, id, fun i j hi hj => ?_⟩
    obtain rfl : j = 0 := by omega
    obtain ⟨_, h2, h3⟩ := World.cells?_some (get' i hi)
    have h4 := h3 0 (by decide)
    rw [add_plain, add_plain, List.getElem?_eq_getElem (by simp)] at h4
    exact ⟨_, by rw [show o + (i * 1 + 0) = o + i * 1 + 0 by omega]; exact h4, rfl⟩
theorem trod_struct2 {t : TypeId} {f0 f1 : Field} {fuel : Nat} {cs : List Value} {x : DataW H × List MemPlace} (ht : P.underlying t = some (.struct #[f0, f1])) (h : DataW.trod enc P w 0 sp held fuel t cs = some x) :
    ∃ y0 y1 n, cs.length = P.cellsOf t ∧ DataW.trod enc P w 0 sp held n f0.type ((cs.drop f0.offset).take (P.cellsOf f0.type)) = some y0 ∧ DataW.trod enc P w 0 sp held n f1.type ((cs.drop f1.offset).take (P.cellsOf f1.type)) = some y1 := by
  obtain ⟨xs, n, _, rfl, hl, hlen, hf⟩ := DataW.trod_struct ht h
  match xs, hlen with
  | [y0, y1], _ => exact ⟨y0, y1, n, hl, by simpa using hf 0 f0 rfl, by simpa using hf 1 f1 rfl⟩
theorem trod_struct6 {t : TypeId} {f0 f1 f2 f3 f4 f5 : Field} {fuel : Nat} {cs : List Value} {x : DataW H × List MemPlace} (ht : P.underlying t = some (.struct #[f0, f1, f2, f3, f4, f5])) (h : DataW.trod enc P w 0 sp held fuel t cs = some x) :
    ∃ y0 y1 y2 y3 y4 y5 n, cs.length = P.cellsOf t ∧ DataW.trod enc P w 0 sp held n f0.type ((cs.drop f0.offset).take (P.cellsOf f0.type)) = some y0 ∧ DataW.trod enc P w 0 sp held n f1.type ((cs.drop f1.offset).take (P.cellsOf f1.type)) = some y1 ∧ DataW.trod enc P w 0 sp held n f2.type ((cs.drop f2.offset).take (P.cellsOf f2.type)) = some y2 ∧ DataW.trod enc P w 0 sp held n f3.type ((cs.drop f3.offset).take (P.cellsOf f3.type)) = some y3 ∧ DataW.trod enc P w 0 sp held n f4.type ((cs.drop f4.offset).take (P.cellsOf f4.type)) = some y4 ∧ DataW.trod enc P w 0 sp held n f5.type ((cs.drop f5.offset).take (P.cellsOf f5.type)) = some y5 := by
  obtain ⟨xs, n, _, rfl, hl, hlen, hf⟩ := DataW.trod_struct ht h
  match xs, hlen with
  | [y0, y1, y2, y3, y4, y5], _ => exact ⟨y0, y1, y2, y3, y4, y5, n, hl, by simpa using hf 0 f0 rfl, by simpa using hf 1 f1 rfl, by simpa using hf 2 f2 rfl, by simpa using hf 3 f3 rfl, by simpa using hf 4 f4 rfl, by simpa using hf 5 f5 rfl⟩
end
section
variable {H : Type} {enc : TypeId × Value → H} {w : World} {sp : Nat → Bool} {held : Bool}
theorem cellsPolys : Tryz.prog.cellsOf 28 = 7 := by kernel_rfl
theorem cellsFPoly : Tryz.prog.cellsOf 23 = 1 := by kernel_rfl
theorem cellsInt1 : Tryz.prog.cellsOf 3 = 1 := by kernel_rfl
theorem cellsBig : Tryz.prog.cellsOf 26 = 2 := by kernel_rfl
theorem cellsBool : Tryz.prog.cellsOf 4 = 1 := by kernel_rfl
theorem cellsMag : Tryz.prog.cellsOf 24 = 1 := by kernel_rfl
theorem cellsU32 : Tryz.prog.cellsOf 57 = 1 := by kernel_rfl
set_option maxRecDepth 100000 in
theorem open_polys {r : Reach} {b0 : Nat} {v : Value} {d : DataW H} {ps : List MemPlace} (hval : Value.okWide Tryz.prog w r b0 28 v) (hd : DataW.Trod enc Tryz.prog w 0 sp held 28 v d ps) : ∃ (p x : Int) (n m l q : Nat) (a c : Nat → Int) (s : Bool), VRel (fun _ => False) w [] (Fp.PP p n m l q a c s x) v := by
  obtain ⟨cs, rfl⟩ := okWide_agg Tryz.underlying28 hval
  obtain ⟨fuel, hf⟩ := hd
  obtain ⟨y0, y1, y2, y3, y4, y5, n, hl, h0, h1, h2, h3, h4, h5⟩ := trod_struct6 Tryz.underlying28 hf
  simp only [cellsInt1, cellsFPoly, cellsBig] at h0 h1 h2 h3 h4 h5
  obtain ⟨z0, z1, n', hl', k0, k1⟩ := trod_struct2 Tryz.underlying26 h4
  simp only [cellsBool, cellsMag] at k0 k1
  obtain ⟨p, e0, _⟩ := cell_int Tryz.underlying3 h0
  obtain ⟨u1, m1, a1, e1, _, g1⟩ := cell_ints Tryz.underlying23 cellsInt1 Tryz.underlying3 h1
  obtain ⟨u2, m2, a2, e2, _, g2⟩ := cell_ints Tryz.underlying23 cellsInt1 Tryz.underlying3 h2
  obtain ⟨u3, m3, e3, _, g3⟩ := cell_slice Tryz.underlying23 cellsInt1 (by decide) h3
  obtain ⟨s, e4, _⟩ := DataW.trod_bool Tryz.underlying4 k0
  obtain ⟨u5, m5, e5, _, g5⟩ := cell_slice Tryz.underlying24 cellsU32 (by decide) k1
  obtain ⟨x, e6, _⟩ := cell_int Tryz.underlying3 h5
  refine ⟨p, x, m1, m2, m3, m5, a1, a2, s, cs, rfl, ?_⟩
  have hl : cs.toList.length = 7 := by rw [← cellsPolys]; exact hl
  change (cs.toList.drop 0).take 1 = _ at e0
  change (cs.toList.drop 1).take 1 = _ at e1
  change (cs.toList.drop 2).take 1 = _ at e2
  change (cs.toList.drop 3).take 1 = _ at e3
  change (((cs.toList.drop 4).take 2).drop 0).take 1 = _ at e4
  change (((cs.toList.drop 4).take 2).drop 1).take 1 = _ at e5
  change (cs.toList.drop 6).take 1 = _ at e6
  match hcs : cs.toList, hl with
  | [x0, x1, x2, x3, x4, x5, x6], _ =>
    rw [hcs] at e0 e1 e2 e3 e4 e5 e6
    simp at e0 e1 e2 e3 e4 e5 e6
    subst e0; subst e1; subst e2; subst e3; subst e4; subst e5; subst e6
    exact ⟨rfl, g1, g2, g3, rfl, g5, rfl, trivial⟩
end
end Go.Proofs.YtmfaipklhkgieaaGreat
