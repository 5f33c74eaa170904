/- The argument of the laws on two elements, opened. -/
import Derived.Test.YtmbejakmeijcbaaGreatZg31
namespace Go.Proofs.YtmbejakmeijcbaaGreat
open Go.ChangeShapes Go.WideShapes Go.ChangeAt Go.RowKit
section
variable {H : Type} {enc : TypeId × Value → H} {w : World} {sp : Nat → Bool} {held : Bool}
theorem trod_struct5 {P : Program} {t : TypeId} {f0 f1 f2 f3 f4 : Field} {fuel : Nat} {cs : List Value} {x : DataW H × List MemPlace} (ht : P.underlying t = some (.struct #[f0, f1, f2, f3, f4])) (h : DataW.trod enc P w 0 sp held fuel t cs = some x) :
  ∃ y0 y1 y2 y3 y4 n, cs.length = P.cellsOf t ∧ DataW.trod enc P w 0 sp held n f0.type ((cs.drop f0.offset).take (P.cellsOf f0.type)) = some y0 ∧ DataW.trod enc P w 0 sp held n f1.type ((cs.drop f1.offset).take (P.cellsOf f1.type)) = some y1 ∧ DataW.trod enc P w 0 sp held n f2.type ((cs.drop f2.offset).take (P.cellsOf f2.type)) = some y2 ∧ DataW.trod enc P w 0 sp held n f3.type ((cs.drop f3.offset).take (P.cellsOf f3.type)) = some y3 ∧ DataW.trod enc P w 0 sp held n f4.type ((cs.drop f4.offset).take (P.cellsOf f4.type)) = some y4 := by
 obtain ⟨xs, n, _, rfl, hl, hlen, hf⟩ := DataW.trod_struct ht h
 match xs, hlen with
 | [y0, y1, y2, y3, y4], _ => exact ⟨y0, y1, y2, y3, y4, n, hl, by simpa using hf 0 f0 rfl, by simpa using hf 1 f1 rfl, by simpa using hf 2 f2 rfl, by simpa using hf 3 f3 rfl, by simpa using hf 4 f4 rfl⟩
theorem cTwins : Tryz.prog.cellsOf 56 = 5 := by kernel_rfl
theorem cTwInt : Tryz.prog.cellsOf 3 = 1 := by kernel_rfl
theorem cTwElem : Tryz.prog.cellsOf 25 = 1 := by kernel_rfl
set_option maxRecDepth 100000 in
theorem open_twins {r : Reach} {b0 : Nat} {v : Value} {d : DataW H} {ps : List MemPlace} (hval : Value.okWide Tryz.prog w r b0 56 v) (hd : DataW.Trod enc Tryz.prog w 0 sp held 56 v d ps) : ∃ (n t s : Int) (NA NB : Nat) (qA qB : Nat → RawR), VRel (fun _ => False) w [] (.g [.int .i64 n, .int .i64 t, .int .i64 s, ql NA qA, ql NB qB]) v ∧ (∀ j, j < NA → Rf.dgq (qA j)) ∧ ∀ j, j < NB → Rf.dgq (qB j) := by
 obtain ⟨cs, rfl⟩ := okWide_agg Tryz.underlying56 hval
 obtain ⟨fuel, hf⟩ := hd
 obtain ⟨y0, y1, y2, y3, y4, m, hl, h0, h1, h2, h3, h4⟩ := trod_struct5 Tryz.underlying56 hf
 simp only [cTwInt, cTwElem] at h0 h1 h2 h3 h4
 obtain ⟨n, e0, _⟩ := cell_int Tryz.underlying3 h0
 obtain ⟨t, e1, _⟩ := cell_int Tryz.underlying3 h1
 obtain ⟨s, e2, _⟩ := cell_int Tryz.underlying3 h2
 obtain ⟨u3, NA, qA, e3, g3, _, q3⟩ := cell_list (G := rr) (Q := fun a _ => Rf.dgq a) Tryz.underlying25 cRat (by decide) (fun _ => rfl) (fun n cs' y hy => one_rat hy) h3
 obtain ⟨u4, NB, qB, e4, g4, _, q4⟩ := cell_list (G := rr) (Q := fun a _ => Rf.dgq a) Tryz.underlying25 cRat (by decide) (fun _ => rfl) (fun n cs' y hy => one_rat hy) h4
 refine ⟨n, t, s, NA, NB, qA, qB, ⟨cs, rfl, ?_⟩, fun j hj => (q3 j hj).elim fun _ h => h.1, fun j hj => (q4 j hj).elim fun _ h => h.1⟩
 have hl : cs.toList.length = 5 := by rw [← cTwins]; exact hl
 change (cs.toList.drop 0).take 1 = _ at e0
 change (cs.toList.drop 1).take 1 = _ at e1
 change (cs.toList.drop 2).take 1 = _ at e2
 change (cs.toList.drop 3).take 1 = _ at e3
 change (cs.toList.drop 4).take 1 = _ at e4
 match hcs : cs.toList, hl with
 | [x0, x1, x2, x3, x4], _ =>
  rw [hcs] at e0 e1 e2 e3 e4
  simp at e0 e1 e2 e3 e4
  subst e0; subst e1; subst e2; subst e3; subst e4
  exact ⟨rfl, rfl, rfl, g3, g4, trivial⟩
end
end Go.Proofs.YtmbejakmeijcbaaGreat
