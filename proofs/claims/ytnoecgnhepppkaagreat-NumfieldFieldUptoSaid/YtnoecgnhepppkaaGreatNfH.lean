/- Fields and elements, opened. -/
import Derived.Test.YtnoecgnhepppkaaGreatOpL
namespace Go.Proofs.YtnoecgnhepppkaaGreat
open Go.ChangeShapes Go.WideShapes Go.ChangeAt Go.RowKit
section
variable {H : Type} {enc : TypeId × Value → H} {w : World} {sp : Nat → Bool} {held : Bool}
theorem cZPoly : Tryz.prog.cellsOf 23 = 1 := by kernel_rfl
theorem cField : Tryz.prog.cellsOf 25 = 1 := by kernel_rfl
set_option maxRecDepth 100000 in
theorem list_int {t fuel : Nat} {cs : List Value} {x : DataW H × List MemPlace} (ht : Tryz.prog.underlying t = some (.slice 44)) (h : DataW.trod enc Tryz.prog w 0 sp held fuel t cs = some x) (hb : Rows.uptoBulk x.1 ≤ 1048576) : ∃ (v : Value) (n : Nat) (c : Nat → RawZ), cs = [v] ∧ CRel (fun _ => False) w [] (zl n c) v ∧ ∀ i, i < n → Rf.wr (c i) := by
  obtain ⟨v, n, f, h1, h2, h3, h4⟩ := cell_list (G := zr) (Q := fun a d => Dg.ok a.ds ∧ a.ds.length ≤ Rows.uptoBulk d) ht cBig (by decide) (fun _ => rfl) (fun n cs' y hy => one_int hy) h
  exact ⟨v, n, f, h1, h2, fun i hi => by
    obtain ⟨d, h5, h6⟩ := h4 i hi
    exact ⟨h5.1, by omega⟩⟩
set_option maxRecDepth 100000 in
theorem open_elem {r : Reach} {b0 t : Nat} {v : Value} {d : DataW H} {ps : List MemPlace} (ht : Tryz.prog.underlying t = some (.slice 46)) (hval : Value.okWide Tryz.prog w r b0 t v) (hd : DataW.Trod enc Tryz.prog w 0 sp held t v d ps) : ∃ (n : Nat) (q : Nat → RawR), VRel (fun _ => False) w [] (.c (ql n q)) v ∧ ∀ j, j < n → Rf.dgq (q j) := by
  obtain ⟨fuel, hf⟩ := hd
  obtain ⟨u, n, f, h1, h2, h3, h4⟩ := cell_list (G := rr) (Q := fun a _ => Rf.dgq a) ht cRat (by decide) (fun _ => rfl) (fun n cs' y hy => one_rat hy) hf
  rw [okWide_slice ht hval] at h1
  cases h1
  exact ⟨n, f, h2, fun j hj => (h4 j hj).elim fun _ h => h.1⟩
set_option maxRecDepth 100000 in
theorem open_field {r : Reach} {b0 : Nat} {v : Value} {d : DataW H} {ps : List MemPlace} (hval : Value.okWide Tryz.prog w r b0 25 v) (hd : DataW.Trod enc Tryz.prog w 0 sp held 25 v d ps) (hb : Rows.uptoBulk d ≤ 1048576) : ∃ (n : Nat) (c : Nat → RawZ), VRel (fun _ => False) w [] (.g [zl n c]) v ∧ ∀ i, i < n → Rf.wr (c i) := by
  obtain ⟨cs, rfl⟩ := okWide_agg Tryz.underlying25 hval
  obtain ⟨fuel, hf⟩ := hd
  obtain ⟨xs, m, _, hx, hl, hlen, hg⟩ := DataW.trod_struct Tryz.underlying25 hf
  match xs, hlen with
  | [y0], _ =>
    have h0 : DataW.trod enc Tryz.prog w 0 sp held m 23 ((cs.toList.drop 0).take (Tryz.prog.cellsOf 23)) = some y0 := hg 0 _ rfl
    rw [cZPoly] at h0
    rw [cField] at hl
    have hb0 : Rows.uptoBulk y0.1 ≤ 1048576 := by
      have e : d = .agg ([y0].map (·.1)) := congrArg Prod.fst hx
      rw [e] at hb
      simp only [List.map, Rows.uptoBulk, Rows.uptoBulkAll] at hb
      omega
    obtain ⟨u, n, c, e0, hu, hc⟩ := list_int Tryz.underlying23 h0 hb0
    refine ⟨n, c, ⟨cs, rfl, ?_⟩, hc⟩
    match hcs : cs.toList, hl with
    | [x0], _ =>
      rw [hcs] at e0
      simp at e0
      subst e0
      exact ⟨hu, trivial⟩
end
end Go.Proofs.YtnoecgnhepppkaaGreat
