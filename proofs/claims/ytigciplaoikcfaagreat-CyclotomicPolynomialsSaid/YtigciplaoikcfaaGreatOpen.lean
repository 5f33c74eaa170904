/- What is read as data, in abstract words; the last step of a law's row. -/
import Derived.Test.YtigciplaoikcfaaGreatRunF
import Derived.Test.YtigciplaoikcfaaGreatRows
import Derived.ProofKit
import Derived.OpenShut
import Derived.Carry
import Derived.ChangeSame
namespace Go.Proofs.YtigciplaoikcfaaGreat
open Go.ChangeShapes Go.WideShapes Go.ChangeAt Go.RowKit
theorem lawOwn : ownKnob Tryz.prog.godebug = none := by kernel_rfl
theorem lawLaid : laidOutB Tryz.prog = true := by kernel_rfl
section
variable {H : Type} {enc : TypeId × Value → H} {P : Program}
/-- The end of a call that leaves old memory as it was. -/
theorem post_below {f : Func} {s : ChangeSpec} {apart fresh handsOn again : Bool} {W W' : World} {args : Array Value} {v : Value} {ds gs : List (DataW H)} {before pa pv : List MemPlace}
    (hW : DataW.Whole enc P f.params.toList s.vars apart W args.toList ds gs before)
    (hres : ∀ (b : Nat) (sp : Nat → Bool) (hd : Bool), DataW.TrodAll enc P W' b sp hd f.resultTypes.toList (v.resultList f.resultTypes.size) (s.fn H (ds ++ gs)).results [])
    (hargs : ∀ sp : Nat → Bool, (∀ p ∈ before, sp p.block = true) → DataW.TrodAll enc P W' 0 sp true f.params.toList args.toList (s.fn H (ds ++ gs)).args pa)
    (hvars : ∀ sp : Nat → Bool, (∀ p ∈ before, sp p.block = true) → DataW.TrodVars enc P W' sp s.vars (s.fn H (ds ++ gs)).vars pv)
    (hps : before = pa ++ pv) (hb : Below W.heap.size W W')
    (hok : ∀ (j : Nat) (t : TypeId) (r : Value), f.resultTypes[j]? = some t → (v.resultList f.resultTypes.size)[j]? = some r → Value.okWide P W' .any 0 t r) :
    s.post enc P f apart fresh handsOn again W args v W' := by
  have hlt : ∀ p ∈ before, p.block < W.heap.size := fun p hp => hW.lt p hp
  have hold : ∀ p ∈ before, (fun b => decide (b < W.heap.size)) p.block = true := fun p hp => by simpa using hlt p hp
  refine ⟨ds, gs, before, [], pa, pv, hW, hres _ _ _, hargs _ hold, hvars _ hold, World.keptBut_mono (fun p hp => ⟨hp, ?_⟩) (hb.frame (· ∈ before)), fun _ => ?_⟩
  · rw [hps, List.mem_append] at hp
    exact Or.inr hp
  · obtain ⟨_, _, _, _, _, hz, hn⟩ := hW
    refine ⟨hok, _, _, ([] ++ pa) ++ pv, ⟨[] ++ pa, pv, trodAll_append (hargs _ (fun _ _ => rfl)) (hres _ _ _), hvars _ (fun _ _ => rfl), rfl, ?_, ?_⟩, ?_⟩
    · intro b off hp
      have hin : MemPlace.cell b off ∈ before := by rw [hps]; simpa using hp
      rw [hb.frozen (hlt _ hin)]
      exact hz b off hin
    · intro ha
      have := hn ha
      rw [hps] at this
      simpa using this
    · intro p hp _
      rw [hps]
      simpa using hp
/-- What was read reads so behind a call that leaves it. -/
theorem Below.trodS {t : TypeId} (hl : laidOutB P = true) (hr : P.readableRec t = true) (hrow : t < P.types.size) {W W' : World} {sp : Nat → Bool} {v : Value} {d : DataW H} {ps : List MemPlace}
    (h : DataW.Trod enc P W 0 (fun _ => true) true t v d ps) (hb : Below W.heap.size W W') (hlt : ∀ x ∈ ps, x.block < W.heap.size) (hs : ∀ x ∈ ps, sp x.block = true) :
    DataW.Trod enc P W' 0 sp true t v d ps :=
  WideElems.Trod_stays hl hr hrow h (fun x hx => hb.same (hlt x hx)) hs
end
section
variable {H : Type} {enc : TypeId × Value → H} {P : Program} {w : World} {sp : Nat → Bool} {held : Bool}
/-- A slice of which nothing is asked but its length. -/
theorem cell_slice {t e sz fuel : Nat} {cs : List Value} {x : DataW H × List MemPlace} (ht : P.underlying t = some (.slice e)) (hk : P.cellsOf e = sz) (h0 : 0 < sz) (h : DataW.trod enc P w 0 sp held fuel t cs = some x) : ∃ v n, cs = [v] ∧ n ≤ maxLen ∧ CRel (fun _ => False) w [] (.row sz n fun _ _ => .any) v := by
  rcases DataW.trod_slice ht h with ⟨rfl, _⟩ | ⟨a, len, cap, elems, rest, n, _, rfl, _, _, hl, hm, hlen, hel, _⟩
  · exact ⟨_, 0, rfl, Nat.zero_le _, none, 0, rfl, Nat.le_refl _, fun h => absurd h (Nat.lt_irrefl 0)⟩
  · refine ⟨_, len, rfl, by omega, _, cap, rfl, hl, fun hn => ?_⟩
    have get : ∀ i, i < len → ∃ cs', w.cells? 0 (a.add (i * sz)) sz = some cs' := by
      intro i hi
      have := hel i hi
      rw [hk, List.getElem?_eq_getElem (by omega), Option.bind_eq_some_iff] at this
      obtain ⟨cs', h1, _⟩ := this
      exact ⟨cs', h1⟩
    obtain ⟨b, o, spt⟩ := a
    have hs : spt = none ∧ b < w.heap.size := by
      obtain ⟨cs', h1⟩ := get 0 hn
      obtain ⟨_, h2, h3⟩ := World.cells?_some h1
      have h4 := h3 0 h0
      rw [Nat.zero_mul, Addr.add, if_pos rfl, Addr.add, if_pos rfl, List.getElem?_eq_getElem (by omega)] at h4
      unfold World.cell? at h4
      split at h4
      · rename_i hh
        refine ⟨?_, (Array.getElem?_eq_some_iff.1 hh).1⟩
        split at h4
        · cases h4
        · rename_i hs; simpa using hs
      · cases h4
    obtain ⟨rfl, hb⟩ := hs
    refine ⟨b, o, rfl, hb, id, fun i j hi hj => ?_⟩
    obtain ⟨cs', h1⟩ := get i hi
    obtain ⟨_, h2, h3⟩ := World.cells?_some h1
    have h4 := h3 j hj
    rw [add_plain, add_plain, List.getElem?_eq_getElem (by omega)] at h4
    exact ⟨_, by rw [show o + (i * sz + j) = o + i * sz + j by omega]; exact h4, trivial⟩
theorem trod_struct3 {t : TypeId} {f0 f1 f2 : Field} {fuel : Nat} {cs : List Value} {x : DataW H × List MemPlace} (ht : P.underlying t = some (.struct #[f0, f1, f2])) (h : DataW.trod enc P w 0 sp held fuel t cs = some x) :
    ∃ y0 y1 y2 n, cs.length = P.cellsOf t ∧ DataW.trod enc P w 0 sp held n f0.type ((cs.drop f0.offset).take (P.cellsOf f0.type)) = some y0 ∧ DataW.trod enc P w 0 sp held n f1.type ((cs.drop f1.offset).take (P.cellsOf f1.type)) = some y1 ∧ DataW.trod enc P w 0 sp held n f2.type ((cs.drop f2.offset).take (P.cellsOf f2.type)) = some y2 := by
  obtain ⟨xs, n, _, rfl, hl, hlen, hf⟩ := DataW.trod_struct ht h
  match xs, hlen with
  | [y0, y1, y2], _ => exact ⟨y0, y1, y2, n, hl, by simpa using hf 0 f0 rfl, by simpa using hf 1 f1 rfl, by simpa using hf 2 f2 rfl⟩
theorem cell_int {t fuel : Nat} {k : IntKind} {cs : List Value} {x : DataW H × List MemPlace} (ht : P.underlying t = some (.int k)) (h : DataW.trod enc P w 0 sp held fuel t cs = some x) : ∃ n, cs = [.int k n] ∧ (Lit.int k n).wf = true := by
  obtain ⟨n, h1, _, h2⟩ := DataW.trod_int ht h
  exact ⟨n, h1, h2⟩
theorem okWide_slice {r : Reach} {b0 t e : Nat} {v : Value} (ht : P.underlying t = some (.slice e)) (hval : Value.okWide P w r b0 t v) : v.cells.toList = [v] := by
  cases v with
  | agg cs => simp [Value.okWide, ht, Cell.okWide, Cell.ok] at hval
  | _ => rfl
theorem okWide_agg {r : Reach} {b0 t : Nat} {fs : Array Field} {v : Value} (ht : P.underlying t = some (.struct fs)) (hval : Value.okWide P w r b0 t v) : ∃ cs, v = .agg cs := by
  simp only [Value.okWide, ht] at hval
  obtain ⟨cs, h, _⟩ := hval
  exact ⟨cs, h⟩
theorem open_slice {r : Reach} {b0 t e sz : Nat} {v : Value} {d : DataW H} {ps : List MemPlace} (ht : P.underlying t = some (.slice e)) (hk : P.cellsOf e = sz) (h0 : 0 < sz) (hval : Value.okWide P w r b0 t v) (hd : DataW.Trod enc P w 0 sp held t v d ps) : ∃ n, n ≤ maxLen ∧ VRel (fun _ => False) w [] (.c (.row sz n fun _ _ => .any)) v := by
  obtain ⟨fuel, hf⟩ := hd
  obtain ⟨u, n, h1, h2, h3⟩ := cell_slice ht hk h0 hf
  rw [okWide_slice ht hval] at h1
  cases h1
  exact ⟨n, h2, h3⟩
end
section
variable {H : Type} {enc : TypeId × Value → H} {w : World} {sp : Nat → Bool} {held : Bool}
theorem cellsMat : Tryz.prog.cellsOf 25 = 3 := by kernel_rfl
theorem cellsRat : Tryz.prog.cellsOf 63 = 4 := by kernel_rfl
theorem cellsInt : Tryz.prog.cellsOf 3 = 1 := by kernel_rfl
theorem cellsRats : Tryz.prog.cellsOf 22 = 1 := by kernel_rfl
set_option maxRecDepth 100000 in
/-- A matrix of which only the numbers of rows, columns and elements are asked. -/
theorem open_matrix {r : Reach} {b0 : Nat} {v : Value} {d : DataW H} {ps : List MemPlace} (hval : Value.okWide Tryz.prog w r b0 25 v) (hd : DataW.Trod enc Tryz.prog w 0 sp held 25 v d ps) : ∃ (a b : Int) (n : Nat), n ≤ maxLen ∧ VRel (fun _ => False) w [] (.g [.int .i64 a, .int .i64 b, .row 4 n fun _ _ => .any]) v := by
  obtain ⟨cs, rfl⟩ := okWide_agg Tryz.underlying25 hval
  obtain ⟨fuel, hf⟩ := hd
  obtain ⟨y0, y1, y2, n, hl, h0, h1, h2⟩ := trod_struct3 Tryz.underlying25 hf
  simp only [cellsInt, cellsRats] at h0 h1 h2
  obtain ⟨a, e0, _⟩ := cell_int Tryz.underlying3 h0
  obtain ⟨b, e1, _⟩ := cell_int Tryz.underlying3 h1
  obtain ⟨u, m, e2, hm, hu⟩ := cell_slice Tryz.underlying22 cellsRat (by decide) h2
  refine ⟨a, b, m, hm, cs, rfl, ?_⟩
  have hl : cs.toList.length = 3 := by rw [← cellsMat]; exact hl
  change (cs.toList.drop 0).take 1 = _ at e0
  change (cs.toList.drop 1).take 1 = _ at e1
  change (cs.toList.drop 2).take 1 = _ at e2
  match hcs : cs.toList, hl with
  | [x, y, z], _ =>
    rw [hcs] at e0 e1 e2
    simp at e0 e1 e2
    subst e0; subst e1; subst e2
    exact ⟨rfl, rfl, hu, trivial⟩
end
/-- A law's call, off a contract. -/
theorem law_call {r : Bool} {f : FuncId} {al : List V} (h : FnOK Tryz.prog r f al (.c (.bool true))) {w : World} {vs : List Value} (hv : VRels (fun _ => False) w [] al vs) : Calls Tryz.prog f vs.toArray w fun e w' => e = .returned (.bool true) ∧ Below w.heap.size w w' :=
  (h.2 (fun _ => False) w vs (fun b hb => hb.elim) (fun _ b o d hb => hb.elim) hv).mono fun _ _ ⟨v, he, hv, hb⟩ => ⟨by rw [he, show v = .bool true from hv], hb⟩
end Go.Proofs.YtigciplaoikcfaaGreat
